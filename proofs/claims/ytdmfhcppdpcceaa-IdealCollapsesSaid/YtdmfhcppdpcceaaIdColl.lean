/- IdealCollapses, the walk: it returns true. -/
import Derived.Test.YtdmfhcppdpcceaaZero
import Derived.Test.YtdmfhcppdpcceaaQuot
import Derived.Test.YtdmfhcppdpcceaaIn
import Derived.Test.YtdmfhcppdpcceaaIdealAwake
namespace Go.Proofs.Ytdmfhcppdpcceaa
open Go Go.AM
set_option maxRecDepth 100000
set_option maxHeartbeats 1000000
theorem idColl_k (t : List (List Int)) (l : List Int) : fnK TY SP Try.f9 [.ro (.rows .i64 t), .ro (.ints .i64 l)] (.bool (.lit true)) := by
  refine Or.inl (cq (small18_fn t 14) (And.intro rfl (And.intro rfl trivial)) ?_)
  refine And.intro (fun _ => ?_) (fun h1 => ?_)
  · exact Or.inl (cq awake18_fn trivial (And.intro rfl trivial))
  have h1 : (!decide ((t.length : Int) ≤ 14 ∧ validV t = 0)) = false := h1
  have h1 : (t.length : Int) ≤ 14 ∧ validV t = 0 := by simpa using h1
  have h : Semi t := valid_zero.1 h1.2
  refine Or.inl (cq (rin_fn t l) (And.intro rfl (And.intro rfl trivial)) ?_)
  refine And.intro (fun _ => ?_) (fun h2 => ?_)
  · exact Or.inl (cq awake18_fn trivial (And.intro rfl trivial))
  refine And.intro (fun _ => ?_) (fun h3 => ?_)
  · exact Or.inl (cq awake18_fn trivial (And.intro rfl trivial))
  have h2 : (!decide (∀ x ∈ l, 0 ≤ x ∧ x < (t.length : Int))) = false := h2
  have hin : ∀ x ∈ l, 0 ≤ x ∧ x < (t.length : Int) := by simpa using h2
  have h3 : (l.length : Int) ≠ 0 := h3
  have hL := two_id h hin (by omega)
  have hq := quot_semi h hL
  have hcount := rest_count hL
  have hql := quotQ_len t (ascV t.length (twoF t (setI l)))
  have hcl := clsQ_len t (ascV t.length (twoF t (setI l)))
  have hLl := ascV_len t.length (twoF t (setI l))
  have hcr : ∀ x ∈ clsQ t (ascV t.length (twoF t (setI l))), 0 ≤ x ∧ x < ((quotQ t (ascV t.length (twoF t (setI l)))).length : Int) := fun x hx => by
    obtain ⟨i, hi, rfl⟩ := mem_getD 0 hx
    rw [hcl] at hi
    have := cN_lt (l := ascV t.length (twoF t (setI l))) hi
    rw [clsQ_get hi, clsV_n, hql]; omega
  refine Or.inl (cq (iTwo_fn t l h hin) (And.intro rfl (And.intro rfl trivial)) ?_)
  refine Or.inl (cq (iquot_fn t h (ascV t.length (twoF t (setI l))) hL) (And.intro rfl (And.intro rfl trivial)) ?_)
  refine And.intro (fun h4 => absurd rfl h4) (fun _ => ?_)
  refine Or.inl (cq (valid_fn (quotQ t (ascV t.length (twoF t (setI l))))) (And.intro rfl trivial) ?_)
  refine And.intro (fun h4 => absurd (valid_zero.2 hq) h4) (fun _ => ?_)
  refine Or.inl (cq (zero_fn (quotQ t (ascV t.length (twoF t (setI l)))) hq (quot_zero h.toSh hL)) (And.intro rfl trivial) ?_)
  refine And.intro (fun h4 => absurd rfl h4) (fun _ => ?_)
  refine And.intro (by omega) ?_
  refine And.intro (by omega) ?_
  refine And.intro (fun h4 => ?_) (fun _ => ?_)
  · have h4 : ((quotQ t (ascV t.length (twoF t (setI l)))).length : Int) ≠ (t.length : Int) - ((ascV t.length (twoF t (setI l))).length : Int) + 1 := h4
    omega
  refine And.intro (fun h4 => ?_) (fun _ => ?_)
  · have h4 : ((clsQ t (ascV t.length (twoF t (setI l)))).length : Int) ≠ (t.length : Int) := h4
    omega
  refine Or.inl (cq (rin_fn (quotQ t (ascV t.length (twoF t (setI l)))) (clsQ t (ascV t.length (twoF t (setI l))))) (And.intro rfl (And.intro rfl trivial)) ?_)
  refine And.intro (fun h4 => ?_) (fun _ => ?_)
  · rw [decide_eq_true hcr] at h4; cases h4
  refine Or.inl (cq (rset_fn (ascV t.length (twoF t (setI l))) t.length (by omega)) (And.intro rfl (And.intro rfl trivial)) ?_)
  have hsl : (setB t.length fun x => (ascV t.length (twoF t (setI l))).contains (x : Int)).length = t.length := setB_len _ _
  refine Exists.intro [] <| lp (X := Nat) (fun x => [(79, .int .i64 x)]) (fun _ => []) (fun x => x ≤ t.length) (fun x => t.length - x) 0 (Nat.zero_le _) (by repeat' first | refine And.intro ?_ ?_ | exact True.intro | (show (_ : Int) = (_ : Int); omega) | omega | exact rfl | (simp only [RO.len]; omega)) ?_
  intro x hx
  refine And.intro (fun h5 => ?_) (fun h5 => ?_)
  · have hxl : x < t.length := by omega
    have hcx := cN_lt (l := ascV t.length (twoF t (setI l))) hxl
    have hgx : (clsQ t (ascV t.length (twoF t (setI l)))).getD x 0 = (cN t (ascV t.length (twoF t (setI l))) x : Int) := by rw [clsQ_get hxl, clsV_n]
    have hmx : (setB t.length fun x => (ascV t.length (twoF t (setI l))).contains (x : Int)).getD x false = setI (ascV t.length (twoF t (setI l))) x := setB_get (f := setI (ascV t.length (twoF t (setI l)))) hxl
    have hd : (setB t.length fun x => (ascV t.length (twoF t (setI l))).contains (x : Int)).getD x false = decide ((clsQ t (ascV t.length (twoF t (setI l)))).getD x 0 = 0) := by
      rw [hmx, hgx, Bool.eq_iff_iff, decide_eq_true_iff, ← cN_zero (t := t)]; omega
    refine Or.inl ?_
    refine Exists.intro [false, false, false, false, false, false, false, false, false, false] (And.intro (by decide +kernel) ?_)
    refine And.intro (by omega) ?_
    refine And.intro (by omega) ?_
    refine And.intro (fun h6 => ?_) (fun _ => ?_)
    · exfalso
      have h6 : (!((setB t.length fun x => (ascV t.length (twoF t (setI l))).contains (x : Int)).getD x false == decide ((clsQ t (ascV t.length (twoF t (setI l)))).getD x 0 = 0))) = true := h6
      rw [hd] at h6; simp at h6
    refine Exists.intro [] <| lp (X := Nat) (fun y => [(94, .int .i64 y)]) (fun _ => []) (fun y => y ≤ t.length) (fun y => t.length - y) 0 (Nat.zero_le _) (by repeat' first | refine And.intro ?_ ?_ | exact True.intro | (show (_ : Int) = (_ : Int); omega) | omega | exact rfl | (simp only [RO.len]; omega)) ?_
    intro y hy
    refine And.intro (fun h7 => ?_) (fun h7 => ?_)
    · have hyl : y < t.length := by omega
      have hcy := cN_lt (l := (ascV t.length (twoF t (setI l)))) hyl
      have hgy : (clsQ t (ascV t.length (twoF t (setI l)))).getD y 0 = (cN t (ascV t.length (twoF t (setI l))) y : Int) := by rw [clsQ_get hyl, clsV_n]
      have rx := h.toSh.len hxl
      have exy := h.toSh.ent hxl hyl
      have hgxy : (clsQ t (ascV t.length (twoF t (setI l)))).getD (en t x y) 0 = (cN t (ascV t.length (twoF t (setI l))) (en t x y) : Int) := by rw [clsQ_get exy.2, clsV_n]
      have hqr : ((quotQ t (ascV t.length (twoF t (setI l)))).getD (cN t (ascV t.length (twoF t (setI l))) x) []).length = (quotQ t (ascV t.length (twoF t (setI l)))).length := hq.toSh.len (by omega)
      have hqe := hq.toSh.ent (x := cN t (ascV t.length (twoF t (setI l))) x) (y := cN t (ascV t.length (twoF t (setI l))) y) (by omega) (by omega)
      have hhom : cN t (ascV t.length (twoF t (setI l))) (en t x y) = en (quotQ t (ascV t.length (twoF t (setI l)))) (cN t (ascV t.length (twoF t (setI l))) x) (cN t (ascV t.length (twoF t (setI l))) y) := by rw [cls_hom h.toSh hL hxl hyl, quot_en hcx hcy]
      have hinj : x ≠ y → cN t (ascV t.length (twoF t (setI l))) x = cN t (ascV t.length (twoF t (setI l))) y → setI (ascV t.length (twoF t (setI l))) x = true := fun hne he => by
        cases e1 : setI (ascV t.length (twoF t (setI l))) x with
        | true => rfl
        | false =>
          cases e2 : setI (ascV t.length (twoF t (setI l))) y with
          | true => rw [cN_in e2] at he; exact absurd (cN_zero.1 he) (by simp [e1])
          | false => exact absurd ((cls_out hxl e1).2.symm.trans ((congrArg (rN t (ascV t.length (twoF t (setI l)))) he).trans (cls_out hyl e2).2)) hne
      have hv : (clsQ t (ascV t.length (twoF t (setI l)))).getD ((t.getD x []).getD y 0).toNat 0 = ((quotQ t (ascV t.length (twoF t (setI l)))).getD ((clsQ t (ascV t.length (twoF t (setI l)))).getD x 0).toNat []).getD ((clsQ t (ascV t.length (twoF t (setI l)))).getD y 0).toNat 0 := by
        rw [hgx, hgy, Int.toNat_natCast, Int.toNat_natCast, exy.1, Int.toNat_natCast, hgxy, hqe.1, hhom]
      refine Or.inl ?_
      refine Exists.intro [false, false, false, false, false, false, false, false, false, false, false, false, false, false, false, false, false, false, false, false, false, false, false, false, false, false, false, false, false, false, false, false, false, false, false, false, false, false, false, false, false, false, false, false, false, false, false] (And.intro (by decide +kernel) ?_)
      refine And.intro (by omega) ?_
      refine And.intro (by simp only [Int.toNat_natCast]; omega) ?_
      refine And.intro (by simp only [Int.toNat_natCast]; omega) ?_
      refine And.intro (by omega) ?_
      refine And.intro (by simp only [Int.toNat_natCast]; omega) ?_
      refine And.intro (by omega) ?_
      refine And.intro (show 0 ≤ (clsQ t (ascV t.length (twoF t (setI l)))).getD y 0 ∧ (clsQ t (ascV t.length (twoF t (setI l)))).getD y 0 < (((quotQ t (ascV t.length (twoF t (setI l)))).getD ((clsQ t (ascV t.length (twoF t (setI l)))).getD x 0).toNat []).length : Int) by rw [hgx, hgy, Int.toNat_natCast, hqr]; omega) ?_
      refine And.intro (fun h8 => absurd hv h8) (fun _ => ?_)
      refine And.intro (fun h8 => ?_) (fun h8 => ?_)
      · have h8 : (x : Int) ≠ (y : Int) := h8
        refine And.intro (by omega) ?_
        refine And.intro (by omega) ?_
        refine And.intro (fun h9 => ?_) (fun h9 => ?_)
        · have h9 : (clsQ t (ascV t.length (twoF t (setI l)))).getD x 0 = (clsQ t (ascV t.length (twoF t (setI l)))).getD y 0 := h9
          rw [hgx, hgy] at h9
          refine And.intro (by omega) ?_
          refine And.intro (fun h10 => ?_) (fun h10 => ?_)
          · exfalso
            have h10 : (!(setB t.length fun x => (ascV t.length (twoF t (setI l))).contains (x : Int)).getD x false) = true := h10
            rw [hmx, hinj (by omega) (by omega)] at h10
            cases h10
          · refine And.intro (by omega) ?_
            refine nx (y + 1) (show y + 1 ≤ t.length by omega) (show t.length - (y + 1) < t.length - y by omega) (by repeat' first | refine And.intro ?_ ?_ | exact True.intro | (show (_ : Int) = (_ : Int); omega) | omega | exact rfl | (simp only [RO.len]; omega))
        · refine And.intro (by omega) ?_
          refine nx (y + 1) (show y + 1 ≤ t.length by omega) (show t.length - (y + 1) < t.length - y by omega) (by repeat' first | refine And.intro ?_ ?_ | exact True.intro | (show (_ : Int) = (_ : Int); omega) | omega | exact rfl | (simp only [RO.len]; omega))
      · refine And.intro (by omega) ?_
        refine nx (y + 1) (show y + 1 ≤ t.length by omega) (show t.length - (y + 1) < t.length - y by omega) (by repeat' first | refine And.intro ?_ ?_ | exact True.intro | (show (_ : Int) = (_ : Int); omega) | omega | exact rfl | (simp only [RO.len]; omega))
    · have h7 : (t.length : Int) ≤ (y : Int) := h7
      refine And.intro (by omega) ?_
      refine nx (x + 1) (show x + 1 ≤ t.length by omega) (show t.length - (x + 1) < t.length - x by omega) (by repeat' first | refine And.intro ?_ ?_ | exact True.intro | (show (_ : Int) = (_ : Int); omega) | omega | exact rfl | (simp only [RO.len]; omega))
  · exact Or.inl (cq awake18_fn trivial (And.intro rfl trivial))
theorem idColl_fn (t : List (List Int)) (l : List Int) : QF 9 [.ro (.rows .i64 t), .ro (.ints .i64 l)] (.bool (.lit true)) := mkQ Try.func9 (by decide +kernel) rfl (Nat.le_of_ble_eq_true rfl) fun _ => idColl_k t l
end Go.Proofs.Ytdmfhcppdpcceaa
