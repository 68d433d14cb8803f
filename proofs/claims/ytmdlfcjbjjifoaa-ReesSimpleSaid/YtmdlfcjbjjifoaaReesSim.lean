/- ReesSimple, the walk: it returns true. -/
import Derived.Test.YtmdlfcjbjjifoaaReesAwake
import Derived.Test.YtmdlfcjbjjifoaaRefReg
import Derived.Test.YtmdlfcjbjjifoaaGreen
import Derived.Test.YtmdlfcjbjjifoaaReesSimLaw
namespace Go.Proofs.Ytmdlfcjbjjifoaa
open Go Go.AM
set_option maxRecDepth 100000

theorem reesSim_k (G : List (List Int)) (R C : Int) (P : List (List Int)) (z : Bool) : fnK TY SP Try.f6 [rav G R C P z] (.bool (.lit true)) := by
  refine And.intro (fun h1 => ?_) (fun h1 => ?_)
  · exact Or.inl (cq awake_fn trivial (And.intro rfl trivial))
  refine Or.inl (cq (rval_fn G R C P z) (And.intro (by repeat' first | refine And.intro ?_ ?_ | exact True.intro | (show (_ : Int) = (_ : Int); omega) | omega | exact rfl | (simp only [RO.len]; omega)) trivial) ?_)
  refine And.intro (fun h2 => ?_) (fun h2 => ?_)
  · exact Or.inl (cq awake_fn trivial (And.intro rfl trivial))
  have h := rees_zero.1 (show reesV G R C P z = 0 from h2)
  have hsm := rees_semi h
  refine Or.inl (cq (rsize_fn G R C P z h) (And.intro (by repeat' first | refine And.intro ?_ ?_ | exact True.intro | (show (_ : Int) = (_ : Int); omega) | omega | exact rfl | (simp only [RO.len]; omega)) trivial) ?_)
  refine And.intro (fun h3 => ?_) (fun h3 => ?_)
  · exact Or.inl (cq awake_fn trivial (And.intro rfl trivial))
  refine Or.inl (cq (table_fn G R C P z h) (And.intro (by repeat' first | refine And.intro ?_ ?_ | exact True.intro | (show (_ : Int) = (_ : Int); omega) | omega | exact rfl | (simp only [RO.len]; omega)) trivial) ?_)
  refine And.intro (fun h4 => absurd rfl h4) (fun h4 => ?_)
  refine Or.inl (cq (green_fn _ hsm) (And.intro rfl trivial) ?_)
  refine Or.inl (cq (regular_fn _ hsm) (And.intro rfl trivial) ?_)
  have hbl := belowL_len (tabR G R C P z)
  have hrl := regL_len (tabR G R C P z)
  have hjl := classJ_len (tabR G R C P z)
  have hpos := size_pos2 h
  refine And.intro (fun h1 => ?_) (fun h1 => ?_)
  · have hz : z = false := by simpa using h1
    obtain ⟨s1, s2, x, s3, s4, s5⟩ := simple_nozero h hz
    have r0 : (regL (tabR G R C P z)).getD 0 false = true := (regL_iff (by omega)).2 ⟨x, s3, by rw [s4]; rfl, s5⟩
    refine And.intro (fun h2 => ?_) (fun h2 => absurd (show ((belowL (tabR G R C P z)).length : Int) = 1 by omega) h2)
    refine And.intro (fun h3 => ?_) (fun h3 => absurd (show ((regL (tabR G R C P z)).length : Int) = 1 by omega) h3)
    refine And.intro (by omega) ?_
    refine And.intro (fun h4 => ?_) (fun h4 => absurd (r0.symm.trans h4) (by simp))
    refine Or.inl (cq (reg_fn G R C P z h) (And.intro (by repeat' first | refine And.intro ?_ ?_ | exact True.intro | (show (_ : Int) = (_ : Int); omega) | omega | exact rfl | (simp only [RO.len]; omega)) trivial) ?_)
    have rb := regB_true.2 s2
    refine And.intro (fun h5 => ?_) (fun h5 => absurd (rb.symm.trans h5) (by simp))
    refine Or.inl (cq awake_fn trivial ?_)
    exact And.intro rfl trivial
  · have hz : z = true := by simpa using h1
    have hzi : zI z = 1 := by rw [hz]; rfl
    have S := simple_zero h hz
    have no : ∀ {b : Bool}, b = false → ¬ Reg R P → ((BE.lit b).val == (BE.v (regB R P)).val) = true := fun {b} hb hn => by
      rw [regB_false.2 hn]; subst hb; rfl
    refine Exists.intro [false, false, false, false, false, false, false, false, false, false, false, false, false, false, false, false, false, false, false, false, false, false, false, false, false, false, false, false, false, false, false, false, false, false, false, false, false, false, false] (And.intro (by decide +kernel) ?_)
    refine And.intro (fun h2 => ?_) (fun h2 => ?_)
    · refine And.intro (fun h3 => ?_) (fun h3 => absurd (show ((regL (tabR G R C P z)).length : Int) = 2 by have h2 : ((belowL (tabR G R C P z)).length : Int) = 2 := h2; omega) h3)
      have h2 : ((belowL (tabR G R C P z)).length : Int) = 2 := h2
      have hn : numJ (tabR G R C P z) = 2 := by omega
      refine And.intro (by omega) ?_
      refine And.intro (fun h4 => ?_) (fun h4 => ?_)
      · refine And.intro (by omega) ?_
        refine And.intro (fun h5 => ?_) (fun h5 => ?_)
        · refine And.intro (fun h6 => ?_) (fun h6 => absurd (show ((classJ (tabR G R C P z)).length : Int) = ((tabR G R C P z).length : Int) by omega) h6)
          refine And.intro (show 0 ≤ (1 : Int) ∧ (1 : Int) < ((classJ (tabR G R C P z)).length : Int) by omega) ?_
          refine And.intro (show 0 ≤ (0 : Int) ∧ (0 : Int) < ((classJ (tabR G R C P z)).length : Int) by omega) ?_
          refine Or.inl (cq (reg_fn G R C P z h) (And.intro (by repeat' first | refine And.intro ?_ ?_ | exact True.intro | (show (_ : Int) = (_ : Int); omega) | omega | exact rfl | (simp only [RO.len]; omega)) trivial) ?_)
          have e : (BE.ne ((classJ (tabR G R C P z)).getD 1 0) ((classJ (tabR G R C P z)).getD 0 0)).val = regB R P := by
            rw [Bool.eq_iff_iff, regB_true, ← S]
            show decide _ = true ↔ _
            rw [decide_eq_true_eq]
            have r0 := (regL_iff (t := tabR G R C P z) (c := 0) (by omega)).1 h4
            have r1 := (regL_iff (t := tabR G R C P z) (c := 1) (by omega)).1 h5
            exact ⟨fun hne => ⟨hn, r0, r1, hne⟩, fun hh => hh.2.2.2⟩
          refine And.intro (fun h7 => ?_) (fun h7 => absurd h7 (by
            show ¬ ((BE.ne ((classJ (tabR G R C P z)).getD 1 0) ((classJ (tabR G R C P z)).getD 0 0)).val == (BE.v (regB R P)).val) = false
            rw [e]; simp [BE.val]))
          refine Or.inl (cq awake_fn trivial ?_)
          exact And.intro rfl trivial
        · have hn' : ¬ Reg R P := fun hr => by
            have := (S.2 hr).2.2.1
            exact absurd (((regL_iff (t := tabR G R C P z) (c := 1) (by omega)).2 this).symm.trans h5) (by simp)
          refine Or.inl (cq (reg_fn G R C P z h) (And.intro (by repeat' first | refine And.intro ?_ ?_ | exact True.intro | (show (_ : Int) = (_ : Int); omega) | omega | exact rfl | (simp only [RO.len]; omega)) trivial) ?_)
          refine And.intro (fun h7 => ?_) (fun h7 => absurd ((no rfl hn').symm.trans h7) (by simp))
          refine Or.inl (cq awake_fn trivial ?_)
          exact And.intro rfl trivial
      · have hn' : ¬ Reg R P := fun hr => by
          have := (S.2 hr).2.1
          exact absurd (((regL_iff (t := tabR G R C P z) (c := 0) (by omega)).2 this).symm.trans h4) (by simp)
        refine Or.inl (cq (reg_fn G R C P z h) (And.intro (by repeat' first | refine And.intro ?_ ?_ | exact True.intro | (show (_ : Int) = (_ : Int); omega) | omega | exact rfl | (simp only [RO.len]; omega)) trivial) ?_)
        refine And.intro (fun h7 => ?_) (fun h7 => absurd ((no rfl hn').symm.trans h7) (by simp))
        refine Or.inl (cq awake_fn trivial ?_)
        exact And.intro rfl trivial
    · have h2 : ((belowL (tabR G R C P z)).length : Int) ≠ 2 := h2
      have hn' : ¬ Reg R P := fun hr => by have := (S.2 hr).1; omega
      refine Or.inl (cq (reg_fn G R C P z h) (And.intro (by repeat' first | refine And.intro ?_ ?_ | exact True.intro | (show (_ : Int) = (_ : Int); omega) | omega | exact rfl | (simp only [RO.len]; omega)) trivial) ?_)
      refine And.intro (fun h7 => ?_) (fun h7 => absurd ((no rfl hn').symm.trans h7) (by simp))
      refine Or.inl (cq awake_fn trivial ?_)
      exact And.intro rfl trivial
theorem reesSim_fn (G : List (List Int)) (R C : Int) (P : List (List Int)) (z : Bool) : QF 6 [rav G R C P z] (.bool (.lit true)) :=
  mkQ Try.func6 (by decide +kernel) rfl (Nat.le_of_ble_eq_true rfl) fun _ => reesSim_k G R C P z
end Go.Proofs.Ytmdlfcjbjjifoaa
