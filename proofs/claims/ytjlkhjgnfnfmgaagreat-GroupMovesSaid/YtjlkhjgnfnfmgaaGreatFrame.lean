import Derived.Test.YtjlkhjgnfnfmgaaGreatIdealLaw
import Derived.Test.YtjlkhjgnfnfmgaaGreatCmTz
import Derived.Test.YtjlkhjgnfnfmgaaGreatCmCode
import Derived.Test.YtjlkhjgnfnfmgaaGreatMovLaw
import Derived.Test.YtjlkhjgnfnfmgaaGreatGnLaw
import Derived.Test.YtjlkhjgnfnfmgaaGreatOrd
import Derived.Test.YtjlkhjgnfnfmgaaGreatRows
import Derived.Deep.Matrix
import Derived.Deep.Fields
import Derived.SizedLaws
import Derived.Carry
import Derived.WideKeyArgs
import Derived.ProofKit
import Derived.OpenShut
section
section
/- The sanity check, by computation: what every seat needs. -/
namespace Go.Proofs.YtjlkhjgnfnfmgaaGreat
open Go Go.AM Go.CM
set_option maxRecDepth 100000
theorem zOk : ZOk Tryz.prog TY TZ := zOk_of (by decide +kernel)
theorem namesOk : namesB Tryz.prog = true := by decide +kernel
theorem semi_of {t : List (List Int)} (h : semiB t = true) : validV t = 0 := by
  obtain ⟨⟨h1, h2⟩, h3, h4⟩ := semiB_ok h
  exact valid_zero.2 ⟨⟨h1, h2, h3⟩, fun g hg x y hx hy => h4 x g y hx hg hy⟩
noncomputable abbrev KN : Kn := ⟨[], knowV 79 semiB⟩
theorem kn_ok : CalOk Tryz.prog KN.know := know_ok fun t h => by have := valid_fn t; rw [semi_of h] at this; exact this
def eqsB (P : Program) (eqs : List Nat) : Bool := eqs.all fun t => !P.stoodInHeld t && !P.eqGuardType P.depth t && (P.fieldsOf t).toList.all fun f => decide (f.name ≠ "_")
theorem eqs_of {P : Program} {eqs : List Nat} (h : eqsB P eqs = true) : EqOk P eqs := fun t ht => by
  have h := List.all_eq_true.1 h t (memB_iff.1 ht)
  simp only [Bool.and_eq_true, Bool.not_eq_true', List.all_eq_true, decide_eq_true_eq] at h
  exact ⟨h.1.1, h.1.2, h.2⟩
theorem awkE {f : FuncId} {n d : Nat} (eqs : List Nat) (he : eqsB Tryz.prog eqs = true) (h : okTrue (evF Tryz.prog TY TZ ⟨eqs, KN.know⟩ n d f [] ⟨.lf, 0, 0, []⟩) = true) : QF f [] (.bool (.lit true)) :=
  fn_true (K := ⟨eqs, KN.know⟩) tyOk zOk kn_ok (eqs_of he) mixed (names_of namesOk) h
end Go.Proofs.YtjlkhjgnfnfmgaaGreat
end
section
/- Statements about groups: the sanity check. -/
namespace Go.Proofs.YtjlkhjgnfnfmgaaGreat
open Go Go.AM Go.CM
set_option maxRecDepth 100000
theorem awake16_fn : QF 10 [] (.bool (.lit true)) := awkE (n := 1000) (d := 60) [38] (by decide +kernel) (by decide +kernel)
end Go.Proofs.YtjlkhjgnfnfmgaaGreat
end
end
section
/- The statement GroupMoves: the walk. -/
namespace Go.Proofs.YtjlkhjgnfnfmgaaGreat
open Go Go.AM
set_option maxRecDepth 100000
theorem tmod_bnd2 (a : Int) {n : Int} (h : 0 < n) : -n < a.tmod n ∧ a.tmod n < n :=
  ⟨by have := Int.lt_tmod_of_pos a h; omega, Int.tmod_lt_of_pos a h⟩
theorem cntN_le (p : Nat → Bool) : ∀ k, cntN p k ≤ k
  | 0 => Nat.le_refl _
  | k + 1 => by
    have := cntN_le p k
    show cntN p k + (match p k with | true => 1 | false => 0) ≤ k + 1
    cases p k <;> simp <;> omega
theorem cnt_snoc (p : Nat → Bool) (k : Nat) : cntN p (k + 1) = cntN p k + (match p k with | true => 1 | false => 0) := rfl
theorem flt_snoc {α : Type} (p : α → Bool) (l : List α) (d : α) {k : Nat} (hk : k < l.length) : ((l.take (k + 1)).filter p).length = ((l.take k).filter p).length + (match p (l.getD k d) with | true => 1 | false => 0) := by
  rw [List.take_succ_eq_append_getElem hk, List.filter_append, List.length_append, getD_eq hk]
  cases h : p l[k] <;> simp [h]
def MvI (L : List (List Int)) (X Y k : Nat) (b : Bool) : Prop := b = true ↔ ∃ j, j < k ∧ imN (L.getD j []) X = Y
theorem MvI.start (L : List (List Int)) (X Y : Nat) : MvI L X Y 0 false := Iff.intro (fun h => absurd h (by decide)) fun ⟨j, h, _⟩ => absurd h (Nat.not_lt_zero _)
theorem MvI.yes {L : List (List Int)} {X Y k : Nat} (h : MvI L X Y k true) : MvI L X Y (k + 1) true := Iff.intro (fun _ => by obtain ⟨j, hj, e⟩ := h.1 rfl; exact ⟨j, by omega, e⟩) fun _ => rfl
theorem MvI.no {L : List (List Int)} {X Y k : Nat} {b : Bool} (h : MvI L X Y k false) (e : b = true ↔ imN (L.getD k []) X = Y) : MvI L X Y (k + 1) b := by
  refine e.trans ⟨fun h1 => ⟨k, by omega, h1⟩, fun ⟨j, hj, e1⟩ => ?_⟩
  by_cases ej : j = k
  · subst ej; exact e1
  · exact absurd (h.2 ⟨j, by omega, e1⟩) (by decide)
set_option maxHeartbeats 8000000 in
theorem grpMv_k (G : List (List Int)) (x y : Int) (hm : mayV G = 0) (h5 : (G.getD 0 []).length ≤ 5) (h6 : G.length ≤ 6) : fnK TY SP Tryz.f4 [.ro (.rows .i64 G), .int .i64 x, .int .i64 y] (.bool (.lit true)) := by
  obtain ⟨h0, hpm⟩ := may_zero.1 hm
  have hG : ∀ f ∈ G, prmP f ∧ f.length = (G.getD 0 []).length := fun f hf => ⟨(hpm f hf).2, by have := (hpm f hf).1; omega⟩
  have hP : ∀ f ∈ G, Perm (G.getD 0 []).length f := fun f hf => (hG f hf).2 ▸ (hG f hf).1.perm
  have hv := (hG _ (getD_mem (d := []) h0)).1.1.1
  have ho := eqP_len (n := (G.getD 0 []).length) (R := OrR (G.getD 0 []).length G)
  refine Or.inl (cq (rmay16_fn G) (And.intro rfl trivial) ?_)
  refine And.intro (fun h => absurd hm h) (fun _ => ?_)
  refine And.intro (by omega) ?_
  refine And.intro (fun h => absurd (show 5 < ((G.getD 0 []).length : Int) from h) (by omega)) (fun _ => ?_)
  refine And.intro (fun h => absurd (show 6 < (G.length : Int) from h) (by omega)) (fun _ => ?_)
  refine And.intro (by omega) ?_
  have hbx := tmod_bnd2 x (show (0 : Int) < ((G.getD 0 []).length : Int) by omega)
  have hby := tmod_bnd2 y (show (0 : Int) < ((G.getD 0 []).length : Int) by omega)
  have hp : (0 : Int) < ((G.getD 0 []).length : Int) := by omega
  have hx2 : (0 : Int) ≤ x.tmod ((G.getD 0 []).length : Int) + ((G.getD 0 []).length : Int) ∧ (0 : Int) < ((G.getD 0 []).length : Int) := ⟨by omega, hp⟩
  have hy2 : (0 : Int) ≤ y.tmod ((G.getD 0 []).length : Int) + ((G.getD 0 []).length : Int) ∧ (0 : Int) < ((G.getD 0 []).length : Int) := ⟨by omega, hp⟩
  have hx3 : -9223372036854775808 ≤ x.tmod ((G.getD 0 []).length : Int) + ((G.getD 0 []).length : Int) ∧ x.tmod ((G.getD 0 []).length : Int) + ((G.getD 0 []).length : Int) ≤ 9223372036854775807 := by omega
  have hy3 : -9223372036854775808 ≤ y.tmod ((G.getD 0 []).length : Int) + ((G.getD 0 []).length : Int) ∧ y.tmod ((G.getD 0 []).length : Int) + ((G.getD 0 []).length : Int) ≤ 9223372036854775807 := by omega
  refine Or.inr (Exists.intro (.fst 0 (.fst 1 (.fst 3 (.fst 5 (.fst 7 (.fst 8 (.fst 10 (.fst 12 (.br 2 (.br 4 (.br 6 (.fst 14 (.br 9 (.br 11 (.br 13 (.fst 15 .done) .no) .no) .no)) (.br 9 (.br 6 (.fst 14 (.br 11 (.br 13 (.fst 15 .done) .no) .no)) (.br 11 (.br 6 (.fst 14 (.br 13 (.fst 15 .done) .no)) (.br 13 (.br 6 (.fst 14 (.fst 15 .done)) .no) .no)) .no)) .no)) (.br 9 (.br 4 (.br 6 (.fst 14 (.br 11 (.br 13 (.fst 15 .done) .no) .no)) (.br 11 (.br 6 (.fst 14 (.br 13 (.fst 15 .done) .no)) (.br 13 (.br 6 (.fst 14 (.fst 15 .done)) .no) .no)) .no)) (.br 11 (.br 4 (.br 6 (.fst 14 (.br 13 (.fst 15 .done) .no)) (.br 13 (.br 6 (.fst 14 (.fst 15 .done)) .no) .no)) (.br 13 (.br 4 (.br 6 (.fst 14 (.fst 15 .done)) .no) .no) .no)) .no)) .no)) (.br 9 (.br 2 (.br 4 (.br 6 (.fst 14 (.br 11 (.br 13 (.fst 15 .done) .no) .no)) (.br 11 (.br 6 (.fst 14 (.br 13 (.fst 15 .done) .no)) (.br 13 (.br 6 (.fst 14 (.fst 15 .done)) .no) .no)) .no)) (.br 11 (.br 4 (.br 6 (.fst 14 (.br 13 (.fst 15 .done) .no)) (.br 13 (.br 6 (.fst 14 (.fst 15 .done)) .no) .no)) (.br 13 (.br 4 (.br 6 (.fst 14 (.fst 15 .done)) .no) .no) .no)) .no)) (.br 11 (.br 2 (.br 4 (.br 6 (.fst 14 (.br 13 (.fst 15 .done) .no)) (.br 13 (.br 6 (.fst 14 (.fst 15 .done)) .no) .no)) (.br 13 (.br 4 (.br 6 (.fst 14 (.fst 15 .done)) .no) .no) .no)) (.br 13 (.br 2 (.br 4 (.br 6 (.fst 14 (.fst 15 .done)) .no) .no) .no) .no)) .no)) .no)))))))))) (And.intro (by decide +kernel) ?_))
  apply schShr
  · intro K hK
    repeat' first
      | exact hK
      | exact True.intro
      | refine Or.inl (And.intro hx2 ?_)
      | refine Or.inl (And.intro hy2 ?_)
      | refine Or.inr (And.intro hp ?_)
      | refine And.intro hx3 ?_
      | refine And.intro hy3 ?_
      | refine And.intro ?_ ?_
  obtain ⟨X, hX⟩ : ∃ X : Nat, ((x.tmod ((G.getD 0 []).length : Int) + ((G.getD 0 []).length : Int)) % ((G.getD 0 []).length : Int)) = (X : Int) := ⟨((x.tmod ((G.getD 0 []).length : Int) + ((G.getD 0 []).length : Int)) % ((G.getD 0 []).length : Int)).toNat, by have := Int.emod_nonneg (x.tmod ((G.getD 0 []).length : Int) + ((G.getD 0 []).length : Int)) (show ((G.getD 0 []).length : Int) ≠ 0 by omega); omega⟩
  obtain ⟨Y, hY⟩ : ∃ Y : Nat, ((y.tmod ((G.getD 0 []).length : Int) + ((G.getD 0 []).length : Int)) % ((G.getD 0 []).length : Int)) = (Y : Int) := ⟨((y.tmod ((G.getD 0 []).length : Int) + ((G.getD 0 []).length : Int)) % ((G.getD 0 []).length : Int)).toNat, by have := Int.emod_nonneg (y.tmod ((G.getD 0 []).length : Int) + ((G.getD 0 []).length : Int)) (show ((G.getD 0 []).length : Int) ≠ 0 by omega); omega⟩
  have hXn : X < (G.getD 0 []).length := by have := Int.emod_lt_of_pos (x.tmod ((G.getD 0 []).length : Int) + ((G.getD 0 []).length : Int)) hp; omega
  have hYn : Y < (G.getD 0 []).length := by have := Int.emod_lt_of_pos (y.tmod ((G.getD 0 []).length : Int) + ((G.getD 0 []).length : Int)) hp; omega
  have hwd : ∀ g ∈ grpL (G.getD 0 []).length G, Perm (G.getD 0 []).length g := fun g hg => ((mem_grp hP).1 hg).perm hP
  have h120 := perms_few h5 (grp_nd (n := (G.getD 0 []).length) (G := G)) hwd
  refine Or.inl (cq (ggen_fn G (G.getD 0 []).length h0 (by omega) hv.1 h5 hG) (And.intro rfl trivial) ?_)
  refine Or.inl (cq (gorb_fn G (G.getD 0 []).length hv.1 (by omega) (fun f hf => ⟨by have := (hG f hf).2; omega, (hG f hf).1⟩) (by omega)) (And.intro rfl (And.intro rfl trivial)) ?_)
  refine And.intro (fun h => absurd rfl h) (fun _ => ?_)
  refine And.intro (fun h => absurd (show ((orbP (G.getD 0 []).length G).length : Int) = ((G.getD 0 []).length : Int) from congrArg _ ho) h) (fun _ => ?_)
  refine Exists.intro [] <| lp3 (fun (k : Nat) (b : Bool) (c : Nat) => [(70, .int .i64 k), (11, .bool (.v b)), (12, .int .i64 c)]) (fun _ _ _ => []) (fun k b c => k ≤ (grpL (G.getD 0 []).length G).length ∧ MvI (grpL (G.getD 0 []).length G) X Y k b ∧ c = (((grpL (G.getD 0 []).length G).take k).filter (mvB X X)).length) (fun k _ _ => (grpL (G.getD 0 []).length G).length - k) 0 false 0 ⟨Nat.zero_le _, MvI.start _ _ _, by simp⟩ (by repeat' first | refine And.intro ?_ ?_ | exact True.intro | (show (_ : Int) = (_ : Int); omega) | omega | exact rfl | (simp only [RO.len]; omega)) ?_
  rintro k b c ⟨hk, hb, hc⟩
  refine And.intro (fun h7 => ?_) (fun h7 => ?_)
  · have h7 : (k : Int) < ((grpL (G.getD 0 []).length G).length : Int) := h7
    have hkl : k < (grpL (G.getD 0 []).length G).length := by omega
    have hg := hwd _ (getD_mem (d := []) hkl)
    have hgl := hg.len
    have him := hg.im hXn
    have hfs := flt_snoc (mvB X X) (grpL (G.getD 0 []).length G) [] hkl
    have hcl : c ≤ k := by rw [hc]; exact Nat.le_trans (List.length_filter_le _ _) (by rw [List.length_take]; omega)
    have e0 : ((grpL (G.getD 0 []).length G).getD k []).getD ((x.tmod ((G.getD 0 []).length : Int) + ((G.getD 0 []).length : Int)) % ((G.getD 0 []).length : Int)).toNat 0 = (imN ((grpL (G.getD 0 []).length G).getD k []) X : Int) := by rw [hX, Int.toNat_natCast]; exact him.2
    have hix : 0 ≤ ((x.tmod ((G.getD 0 []).length : Int) + ((G.getD 0 []).length : Int)) % ((G.getD 0 []).length : Int)) ∧ ((x.tmod ((G.getD 0 []).length : Int) + ((G.getD 0 []).length : Int)) % ((G.getD 0 []).length : Int)) < (((grpL (G.getD 0 []).length G).getD k []).length : Int) := by rw [hX]; omega
    refine And.intro (by omega) ?_
    refine And.intro (fun h => absurd (show (((grpL (G.getD 0 []).length G).getD k []).length : Int) = ((G.getD 0 []).length : Int) from congrArg _ hgl) h) (fun _ => ?_)
    refine And.intro (fun h8 => ?_) (fun h8 => ?_)
    · have h8 : b = true := h8
      subst h8
      refine And.intro hix ?_
      refine And.intro (fun h9 => ?_) (fun h9 => ?_)
      · have h9 : ((grpL (G.getD 0 []).length G).getD k []).getD ((x.tmod ((G.getD 0 []).length : Int) + ((G.getD 0 []).length : Int)) % ((G.getD 0 []).length : Int)).toNat 0 = ((x.tmod ((G.getD 0 []).length : Int) + ((G.getD 0 []).length : Int)) % ((G.getD 0 []).length : Int)) := h9
        have hmv : mvB X X ((grpL (G.getD 0 []).length G).getD k []) = true := decide_eq_true (by omega)
        rw [hmv] at hfs
        refine And.intro (by omega) ?_
        refine And.intro (by omega) ?_
        exact nx (k + 1, true, c + 1) ⟨by omega, hb.yes, by rw [hfs, hc]⟩ (show (grpL (G.getD 0 []).length G).length - (k + 1) < (grpL (G.getD 0 []).length G).length - k by omega) (by repeat' first | refine And.intro ?_ ?_ | exact True.intro | (show (_ : Int) = (_ : Int); omega) | omega | exact rfl | (simp only [RO.len]; omega))
      · have h9 : ((grpL (G.getD 0 []).length G).getD k []).getD ((x.tmod ((G.getD 0 []).length : Int) + ((G.getD 0 []).length : Int)) % ((G.getD 0 []).length : Int)).toNat 0 ≠ ((x.tmod ((G.getD 0 []).length : Int) + ((G.getD 0 []).length : Int)) % ((G.getD 0 []).length : Int)) := h9
        have hmv : mvB X X ((grpL (G.getD 0 []).length G).getD k []) = false := decide_eq_false (by omega)
        rw [hmv] at hfs
        refine And.intro (by omega) ?_
        exact nx (k + 1, true, c) ⟨by omega, hb.yes, by rw [hfs, hc]; rfl⟩ (show (grpL (G.getD 0 []).length G).length - (k + 1) < (grpL (G.getD 0 []).length G).length - k by omega) (by repeat' first | refine And.intro ?_ ?_ | exact True.intro | (show (_ : Int) = (_ : Int); omega) | omega | exact rfl | (simp only [RO.len]; omega))
    · have h8 : b = false := h8
      subst h8
      have e3 : decide (((grpL (G.getD 0 []).length G).getD k []).getD ((x.tmod ((G.getD 0 []).length : Int) + ((G.getD 0 []).length : Int)) % ((G.getD 0 []).length : Int)).toNat 0 = ((y.tmod ((G.getD 0 []).length : Int) + ((G.getD 0 []).length : Int)) % ((G.getD 0 []).length : Int))) = decide (imN ((grpL (G.getD 0 []).length G).getD k []) X = Y) := decide_eq_decide.2 (by omega)
      have hb2 := hb.no (b := decide (imN ((grpL (G.getD 0 []).length G).getD k []) X = Y)) decide_eq_true_iff
      refine And.intro hix ?_
      refine And.intro hix ?_
      refine And.intro (fun h9 => ?_) (fun h9 => ?_)
      · have h9 : ((grpL (G.getD 0 []).length G).getD k []).getD ((x.tmod ((G.getD 0 []).length : Int) + ((G.getD 0 []).length : Int)) % ((G.getD 0 []).length : Int)).toNat 0 = ((x.tmod ((G.getD 0 []).length : Int) + ((G.getD 0 []).length : Int)) % ((G.getD 0 []).length : Int)) := h9
        have hmv : mvB X X ((grpL (G.getD 0 []).length G).getD k []) = true := decide_eq_true (by omega)
        rw [hmv] at hfs
        refine And.intro (by omega) ?_
        refine And.intro (by omega) ?_
        exact nx (k + 1, decide (imN ((grpL (G.getD 0 []).length G).getD k []) X = Y), c + 1) ⟨by omega, hb2, by rw [hfs, hc]⟩ (show (grpL (G.getD 0 []).length G).length - (k + 1) < (grpL (G.getD 0 []).length G).length - k by omega) (by repeat' first | refine And.intro ?_ ?_ | exact True.intro | exact e3 | (show (_ : Int) = (_ : Int); omega) | omega | exact rfl)
      · have h9 : ((grpL (G.getD 0 []).length G).getD k []).getD ((x.tmod ((G.getD 0 []).length : Int) + ((G.getD 0 []).length : Int)) % ((G.getD 0 []).length : Int)).toNat 0 ≠ ((x.tmod ((G.getD 0 []).length : Int) + ((G.getD 0 []).length : Int)) % ((G.getD 0 []).length : Int)) := h9
        have hmv : mvB X X ((grpL (G.getD 0 []).length G).getD k []) = false := decide_eq_false (by omega)
        rw [hmv] at hfs
        refine And.intro (by omega) ?_
        exact nx (k + 1, decide (imN ((grpL (G.getD 0 []).length G).getD k []) X = Y), c) ⟨by omega, hb2, by rw [hfs, hc]; rfl⟩ (show (grpL (G.getD 0 []).length G).length - (k + 1) < (grpL (G.getD 0 []).length G).length - k by omega) (by repeat' first | refine And.intro ?_ ?_ | exact True.intro | exact e3 | (show (_ : Int) = (_ : Int); omega) | omega | exact rfl)
  · have h7 : ((grpL (G.getD 0 []).length G).length : Int) ≤ (k : Int) := h7
    have hke : k = (grpL (G.getD 0 []).length G).length := by omega
    subst hke
    rw [List.take_length] at hc
    refine Exists.intro [] <| lp2 (fun (z : Nat) (m : Nat) => [(98, .int .i64 z), (13, .int .i64 m)]) (fun _ _ => []) (fun z m => z ≤ (G.getD 0 []).length ∧ m = cntN (fun a => decide ((orbP (G.getD 0 []).length G).getD a 0 = (orbP (G.getD 0 []).length G).getD X 0)) z) (fun z _ => (G.getD 0 []).length - z) 0 0 ⟨Nat.zero_le _, rfl⟩ (by repeat' first | refine And.intro ?_ ?_ | exact True.intro | (show (_ : Int) = (_ : Int); omega) | omega | exact rfl | (simp only [RO.len]; omega)) ?_
    rintro z m ⟨hz, hm2⟩
    have hol : (orbP (G.getD 0 []).length G).length = (G.getD 0 []).length := ho
    refine And.intro (fun h8 => ?_) (fun h8 => ?_)
    · have h8 : (z : Int) < ((orbP (G.getD 0 []).length G).length : Int) := h8
      have hzn : z < (G.getD 0 []).length := by omega
      have hix : 0 ≤ ((x.tmod ((G.getD 0 []).length : Int) + ((G.getD 0 []).length : Int)) % ((G.getD 0 []).length : Int)) ∧ ((x.tmod ((G.getD 0 []).length : Int) + ((G.getD 0 []).length : Int)) % ((G.getD 0 []).length : Int)) < ((orbP (G.getD 0 []).length G).length : Int) := by rw [hX]; omega
      have e0 : (orbP (G.getD 0 []).length G).getD ((x.tmod ((G.getD 0 []).length : Int) + ((G.getD 0 []).length : Int)) % ((G.getD 0 []).length : Int)).toNat 0 = (orbP (G.getD 0 []).length G).getD X 0 := by rw [hX, Int.toNat_natCast]
      have hcs := cnt_snoc (fun a => decide ((orbP (G.getD 0 []).length G).getD a 0 = (orbP (G.getD 0 []).length G).getD X 0)) z
      have hml : m ≤ z := by rw [hm2]; exact cntN_le _ _
      refine And.intro (by omega) ?_
      refine And.intro hix ?_
      refine And.intro (fun h9 => ?_) (fun h9 => ?_)
      · have h9 : (orbP (G.getD 0 []).length G).getD z 0 = (orbP (G.getD 0 []).length G).getD ((x.tmod ((G.getD 0 []).length : Int) + ((G.getD 0 []).length : Int)) % ((G.getD 0 []).length : Int)).toNat 0 := h9
        have hd : decide ((orbP (G.getD 0 []).length G).getD z 0 = (orbP (G.getD 0 []).length G).getD X 0) = true := decide_eq_true (by omega)
        refine And.intro (by omega) ?_
        refine And.intro (by omega) ?_
        refine nx (z + 1, m + 1) ⟨by omega, ?_⟩ (show (G.getD 0 []).length - (z + 1) < (G.getD 0 []).length - z by omega) (by repeat' first | refine And.intro ?_ ?_ | exact True.intro | (show (_ : Int) = (_ : Int); omega) | omega | exact rfl | (simp only [RO.len]; omega))
        rw [hcs]; simp only [hd]; omega
      · have h9 : (orbP (G.getD 0 []).length G).getD z 0 ≠ (orbP (G.getD 0 []).length G).getD ((x.tmod ((G.getD 0 []).length : Int) + ((G.getD 0 []).length : Int)) % ((G.getD 0 []).length : Int)).toNat 0 := h9
        have hd : decide ((orbP (G.getD 0 []).length G).getD z 0 = (orbP (G.getD 0 []).length G).getD X 0) = false := decide_eq_false (by omega)
        refine And.intro (by omega) ?_
        refine nx (z + 1, m) ⟨by omega, ?_⟩ (show (G.getD 0 []).length - (z + 1) < (G.getD 0 []).length - z by omega) (by repeat' first | refine And.intro ?_ ?_ | exact True.intro | (show (_ : Int) = (_ : Int); omega) | omega | exact rfl | (simp only [RO.len]; omega))
        rw [hcs]; simp only [hd]; omega
    · have h8 : ((orbP (G.getD 0 []).length G).length : Int) ≤ (z : Int) := h8
      have hze : z = (G.getD 0 []).length := by omega
      subst hze
      have hixX : 0 ≤ ((x.tmod ((G.getD 0 []).length : Int) + ((G.getD 0 []).length : Int)) % ((G.getD 0 []).length : Int)) ∧ ((x.tmod ((G.getD 0 []).length : Int) + ((G.getD 0 []).length : Int)) % ((G.getD 0 []).length : Int)) < ((orbP (G.getD 0 []).length G).length : Int) := by rw [hX]; omega
      have hixY : 0 ≤ ((y.tmod ((G.getD 0 []).length : Int) + ((G.getD 0 []).length : Int)) % ((G.getD 0 []).length : Int)) ∧ ((y.tmod ((G.getD 0 []).length : Int) + ((G.getD 0 []).length : Int)) % ((G.getD 0 []).length : Int)) < ((orbP (G.getD 0 []).length G).length : Int) := by rw [hY]; omega
      have hstab := orb_stab hP hXn (fun a => decide ((orbP (G.getD 0 []).length G).getD a 0 = (orbP (G.getD 0 []).length G).getD X 0)) (fun z hz => by
        show decide _ = true ↔ _
        rw [decide_eq_true_iff]
        exact (Eq.comm).trans (eqP_iff hXn hz))
      rw [← hm2, ← hc] at hstab
      have hb3 : b = decide ((orbP (G.getD 0 []).length G).getD ((x.tmod ((G.getD 0 []).length : Int) + ((G.getD 0 []).length : Int)) % ((G.getD 0 []).length : Int)).toNat 0 = (orbP (G.getD 0 []).length G).getD ((y.tmod ((G.getD 0 []).length : Int) + ((G.getD 0 []).length : Int)) % ((G.getD 0 []).length : Int)).toNat 0) := by
        rw [hX, hY, Int.toNat_natCast, Int.toNat_natCast, Bool.eq_iff_iff, decide_eq_true_iff]
        refine hb.trans (Iff.trans ?_ (eqP_iff hXn hYn).symm)
        rw [orb_iff hP hXn hYn]
        constructor
        · rintro ⟨j, hj, e⟩; exact ⟨_, (mem_grp hP).1 (getD_mem hj), e⟩
        · rintro ⟨g, hg, e⟩
          obtain ⟨j, hj, rfl⟩ := mem_getD [] ((mem_grp hP).2 hg)
          exact ⟨j, hj, e⟩
      have hmulI : ((grpL (G.getD 0 []).length G).length : Int) = (m : Int) * (c : Int) := by rw [hstab]; simp
      refine Or.inl ?_
      refine Exists.intro (List.replicate 23 false) (And.intro (by decide +kernel) ?_)
      refine And.intro hixX ?_
      refine And.intro hixY ?_
      refine And.intro (fun h9 => ?_) (fun h9 => ?_)
      · refine And.intro (by rw [← hmulI]; omega) ?_
        refine And.intro (fun _ => ?_) (fun h10 => absurd hmulI h10)
        exact cq awake16_fn trivial (And.intro rfl trivial)
      · have h9 : (b == decide ((orbP (G.getD 0 []).length G).getD ((x.tmod ((G.getD 0 []).length : Int) + ((G.getD 0 []).length : Int)) % ((G.getD 0 []).length : Int)).toNat 0 = (orbP (G.getD 0 []).length G).getD ((y.tmod ((G.getD 0 []).length : Int) + ((G.getD 0 []).length : Int)) % ((G.getD 0 []).length : Int)).toNat 0)) = false := h9
        rw [← hb3] at h9; simp at h9
theorem grpMvN_k (G : List (List Int)) (x y : Int) (h : ¬ (mayV G = 0 ∧ (G.getD 0 []).length ≤ 5 ∧ G.length ≤ 6)) : fnK TY SP Tryz.f4 [.ro (.rows .i64 G), .int .i64 x, .int .i64 y] (.bool (.lit true)) := by
  refine Or.inl (cq (rmay16_fn G) (And.intro rfl trivial) ?_)
  refine And.intro (fun _ => Or.inl (cq awake16_fn trivial (And.intro rfl trivial))) (fun hm => ?_)
  have hm : mayV G = 0 := hm
  have h0 := (may_zero.1 hm).1
  refine And.intro (by omega) ?_
  refine And.intro (fun _ => Or.inl (cq awake16_fn trivial (And.intro rfl trivial))) (fun h5 => ?_)
  have h5 : ((G.getD 0 []).length : Int) ≤ 5 := h5
  exact And.intro (fun _ => Or.inl (cq awake16_fn trivial (And.intro rfl trivial))) (fun h6 => absurd ⟨hm, by omega, by have h6 : (G.length : Int) ≤ 6 := h6; omega⟩ h)
theorem grpMv_fn (G : List (List Int)) (x y : Int) : QF 4 [.ro (.rows .i64 G), .int .i64 x, .int .i64 y] (.bool (.lit true)) := mkQ Tryz.func4 (by decide +kernel) rfl (Nat.le_of_ble_eq_true rfl) fun _ => by
  by_cases h : mayV G = 0 ∧ (G.getD 0 []).length ≤ 5 ∧ G.length ≤ 6
  · exact grpMv_k G x y h.1 h.2.1 h.2.2
  · exact grpMvN_k G x y h
end Go.Proofs.YtjlkhjgnfnfmgaaGreat
end
section
/- From contracts to the given statements: how the arguments read, before and after. -/
namespace Go.Proofs.YtjlkhjgnfnfmgaaGreat
open Go Go.AM
open Go.ChangeShapes Go.WideShapes Go.ChangeAt Go.RowKit Go.Deep
def noM : Msk := fun _ _ => False
section
variable {H : Type} {enc : TypeId × Value → H} {P : Program} {w : World}
theorem wf_in {k : IntKind} {n : Int} (h : (Lit.int k n).wf = true) : inK k n := by
  simp only [Lit.wf, Bool.and_eq_true, decide_eq_true_eq] at h
  exact h
theorem weight_mem {e : TypeId} {d : DataW H} {x : Nat} : ∀ {l : List (DataW H)}, d ∈ l → x ∈ d.weights P e → x ∈ DataW.weightsAll P e l
  | [], h, _ => by cases h
  | c :: l, h, hx => by
    simp only [DataW.weightsAll, List.mem_append]
    rcases List.mem_cons.1 h with rfl | h
    · exact .inl hx
    · exact .inr (weight_mem h hx)
theorem rows_rep {t e q : TypeId} {n : Nat} {v : Value} {y : DataW H × List MemPlace} (ht : P.underlying t = some (.slice e)) (he : P.underlying e = some (.slice q)) (hq : P.underlying q = some (.int .i64)) (ce : P.cellsOf e = 1) (cq : P.cellsOf q = 1)
    (be : 1 ≤ P.bytesOf e) (bq : 1 ≤ P.bytesOf q) (h : DataW.trod enc P w 0 (fun _ => true) true n t [v] = some y) (hw : ∀ x ∈ y.1.weights P t, x ≤ reachBytes) : ∃ l, RepC noEnv w noM (.ro (.rows .i64 l)) v := by
  have hrb : reachBytes = 140737488351232 := rfl
  rcases open_int_rows ht he hq ce cq h with ⟨hv, _⟩ | ⟨a, len, cap, A, L, C, Z, hv, _, hl, hm, hy, hrows⟩
  · obtain rfl : v = .slice none 0 0 := by simpa using hv
    exact ⟨[], Nat.zero_le _, none, 0, rfl, Nat.le_refl _, .inl rfl⟩
  · obtain rfl : v = .slice (some a) len cap := by simpa using hv
    subst hy
    have hlen : len * P.bytesOf e ≤ reachBytes := by
      have := hw ((len + (cap - len)) * P.bytesOf e) (by simp [DataW.weights, ht])
      exact Nat.le_trans (Nat.mul_le_mul_right _ (by omega)) this
    have hlen1 : len ≤ reachBytes := Nat.le_trans (by have := Nat.mul_le_mul_left len be; omega) hlen
    have hL : ∀ r, r < len → L r ≤ reachBytes := fun r hr => by
      obtain ⟨_, h1, h2, h3, _, h4, _⟩ := hrows r (by omega)
      cases hA : A r with
      | none => have := h4 hA; omega
      | some a' =>
        have hx : (L r + ((Z r).length - L r)) * P.bytesOf q ≤ reachBytes := by
          refine hw _ ?_
          simp only [DataW.weights, ht, List.mem_cons, List.mem_append]
          refine .inr (.inl (weight_mem (d := intRow .i64 (A r) (L r) (Z r)) (List.mem_map.2 ⟨r, List.mem_range.2 hr, rfl⟩) ?_))
          rw [hA]
          simp [intRow, DataW.weights, he, lits]
          left
          rw [Nat.min_eq_left (by omega)]
        have h5 : L r * 1 ≤ (L r + ((Z r).length - L r)) * P.bytesOf q := Nat.mul_le_mul (by omega) bq
        omega
    refine ⟨(List.range len).map fun r => (Z r).take (L r), ?_⟩
    have hll : (RO.rows .i64 ((List.range len).map fun r => (Z r).take (L r))).len = len := by simp [RO.len]
    refine ⟨by rw [hll]; exact Nat.le_trans hlen1 (by rw [hrb]; decide), some a, cap, by rw [hll], by rw [hll]; exact hl, ?_⟩
    by_cases h0 : len = 0
    · exact .inl (by rw [RO.cells, hll, h0, Nat.zero_mul])
    have hcell0 := (hrows 0 (by omega)).1
    obtain ⟨b, off, spot⟩ := a
    have hspot : spot = none := by simpa [Addr.add] using World.cell?_spot hcell0
    subst hspot
    refine .inr ⟨b, off, rfl, fun r hr => ?_⟩
    have hr : r < len := by simpa [RO.cells, hll, RO.sz] using hr
    obtain ⟨h1, h2, h3, h4, h5, h6, h7⟩ := hrows r (by omega)
    refine ⟨.slice (A r) (L r) (C r), by rw [← add_plain]; exact h1, fun hh => hh, ?_⟩
    have hget : ((List.range len).map fun r => (Z r).take (L r)).getD r [] = (Z r).take (L r) := by simp [List.getD, hr]
    show SlI w noM .i64 (((List.range len).map fun r => (Z r).take (L r)).getD r []) _
    rw [hget]
    have hzl : ((Z r).take (L r)).length = L r := by rw [List.length_take]; omega
    refine ⟨by rw [hzl]; have := hL r hr; simp only [LB]; omega, A r, C r, by rw [hzl], by rw [hzl]; exact h2, ?_⟩
    by_cases hl0 : L r = 0
    · exact .inl (by rw [hzl, hl0])
    cases hA : A r with
    | none => have := h6 hA; omega
    | some a' =>
      obtain ⟨h8, h9⟩ := h7 a' hA
      obtain ⟨b', off', spot'⟩ := a'
      have hspot : spot' = none := by simpa [Addr.add] using World.cell?_spot (h9 0 (by omega))
      subst hspot
      refine .inr ⟨b', off', rfl, fun c hc => ?_⟩
      rw [hzl] at hc
      have hg2 : ((Z r).take (L r)).getD c 0 = (Z r).getD c 0 := by simp [List.getD, hc]
      refine ⟨.int .i64 ((Z r).getD c 0), by rw [← add_plain]; exact h9 c (by omega), fun hh => hh, by rw [hg2], ?_⟩
      rw [hg2]
      refine wf_in (h5 _ ?_)
      have : c < (Z r).length := by omega
      simp [List.getD, this]
theorem stp_heap {W W' : World} (hs : Stp (fun _ _ => False) W W') {b : Nat} (hb : b < W.heap.size) : W'.heap[b]? = W.heap[b]? := by
  rcases hs.2 b hb with h | ⟨cs, cs', ty, h1, h2, h3, h4⟩ | ⟨_, _, _, _, _, _, h⟩
  · exact h
  · rw [h1, h2]
    have : cs' = cs := Array.ext_getElem? fun i => h4 i (by simp)
    rw [this]
  · exact h.elim
theorem stp_trod {t : TypeId} (hl : laidOutB P = true) (hr : P.readableRec t = true) (hrow : t < P.types.size) {W W' : World} {v : Value} {d : DataW H} {ps : List MemPlace}
    (h : DataW.Trod enc P W 0 (fun _ => true) true t v d ps) (hs : Stp (fun _ _ => False) W W') (hlt : ∀ x ∈ ps, x.block < W.heap.size) (sp : Nat → Bool) (hsp : ∀ x ∈ ps, sp x.block = true) :
    DataW.Trod enc P W' 0 sp true t v d ps :=
  WideElems.Trod_stays hl hr hrow h (fun x hx => by
    have hb := hlt x hx
    cases x with
    | cell b o => exact World.cell?_of_block (w := W) (stp_heap hs hb)
    | map b => exact stp_heap hs hb) hsp
theorem stp_kept {W W' : World} (hs : Stp (fun _ _ => False) W W') (may : MemPlace → Prop) : W.keptBut W' may := by
  refine ⟨hs.3.1.1, hs.3.1.2, fun i hi => ?_⟩
  rw [stp_heap hs hi]
  cases W.heap[i]? with
  | none => exact rfl
  | some o => cases o <;> first | exact ⟨rfl, rfl, rfl, fun _ _ => rfl⟩ | exact .inr ⟨rfl, rfl⟩ | exact rfl
theorem each_mem : ∀ {ts : List TypeId} {ds : List (DataW H)} {j : Nat} {t : TypeId} {d : DataW H} {x : Nat}, ts[j]? = some t → ds[j]? = some d → x ∈ d.weights P t → x ∈ DataW.weightsEach P ts ds
  | [], _, j, _, _, _, h, _, _ => by simp at h
  | _ :: _, [], j, _, _, _, _, h, _ => by simp at h
  | t :: ts, d :: ds, 0, t', d', x, h1, h2, hx => by
    simp at h1 h2
    subst h1; subst h2
    simp [DataW.weightsEach, hx]
  | t :: ts, d :: ds, j + 1, t', d', x, h1, h2, hx => by
    have := each_mem (ts := ts) (ds := ds) (j := j) (by simpa using h1) (by simpa using h2) hx
    simp [DataW.weightsEach, this]
theorem rows_arg {t e q : TypeId} {r : Reach} {b0 : Nat} {v : Value} {d : DataW H} {p : List MemPlace} (ht : P.underlying t = some (.slice e)) (he : P.underlying e = some (.slice q)) (hq : P.underlying q = some (.int .i64)) (ce : P.cellsOf e = 1) (cq : P.cellsOf q = 1)
    (be : 1 ≤ P.bytesOf e) (bq : 1 ≤ P.bytesOf q) (hv : Value.okWide P w r b0 t v) (h : DataW.Trod enc P w 0 (fun _ => true) true t v d p) (hw : ∀ x ∈ d.weights P t, x ≤ reachBytes) : ∃ l, RepT noEnv w noM (.ro (.rows .i64 l)) v := by
  obtain ⟨a, len, cap, rfl⟩ := okWide_slice ht hv
  obtain ⟨fuel, hf⟩ := h
  exact rows_rep ht he hq ce cq be bq (y := (d, p)) hf hw
end
end Go.Proofs.YtjlkhjgnfnfmgaaGreat
end
