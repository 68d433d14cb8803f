import Derived.Test.YtjlkhjgnfnfmgaaGreatRefNrm
import Derived.Test.YtjlkhjgnfnfmgaaGreatSgp4
import Derived.Test.YtjlkhjgnfnfmgaaGreatPart
import Derived.Test.YtjlkhjgnfnfmgaaGreatSgpLaw
import Derived.Test.YtjlkhjgnfnfmgaaGreatOrd
import Derived.Test.YtjlkhjgnfnfmgaaGreatMult
section
/- Package group: greatest normal subgroups of a subgroup, simple and solvable groups: contracts. -/
namespace Go.Proofs.YtjlkhjgnfnfmgaaGreat
open Go Go.AM
set_option maxRecDepth 100000
theorem gallR_fn (t : List (List Int)) (hn : t.length ≤ 400) : QF 59 [frA t] (.ro (.ints .i64 (allI t))) := new_ro (gall_fn t hn)
end Go.Proofs.YtjlkhjgnfnfmgaaGreat
end
section
/- Package ideal: all ideals: marks, principals, their unions. -/
namespace Go.Proofs.YtjlkhjgnfnfmgaaGreat
open Go Go.AM
set_option maxRecDepth 100000
abbrev mkA (w : Int) : AV := .agg [.int .u64 w, .int .u64 0, .int .u64 0, .int .u64 0, .int .u64 0, .int .u64 0, .int .u64 0]
def seenM (n : Nat) (F : List (List Int)) : List (List Int × Int) := F.map fun s => (mkI n s, 1)
theorem seen_get {n : Nat} {F : List (List Int)} (hF : ∀ s ∈ F, ascV n (setI s) = s) {u : List Int} (hu : ascV n (setI u) = u) : (getM (seenM n F) (mkI n u)).getD 0 = if u ∈ F then 1 else 0 := by
  induction F with
  | nil => rfl
  | cons s F ih =>
    have ih := ih fun x hx => hF x (List.mem_cons_of_mem _ hx)
    show (getM ((mkI n s, 1) :: seenM n F) (mkI n u)).getD 0 = _
    simp only [getM]
    by_cases e : s = u
    · subst e; simp
    · rw [if_neg fun h => e (mkI_inj (hF s (by simp)) hu h), ih]
      simp [Ne.symm e]
theorem seen_set {n : Nat} {F : List (List Int)} (hF : ∀ s ∈ F, ascV n (setI s) = s) {u : List Int} (hu : ascV n (setI u) = u) (hn : u ∉ F) : setM (seenM n F) (mkI n u) 1 = seenM n (F ++ [u]) := by
  induction F with
  | nil => rfl
  | cons s F ih =>
    have ih := ih (fun x hx => hF x (List.mem_cons_of_mem _ hx)) fun h => hn (List.mem_cons_of_mem _ h)
    show setM ((mkI n s, 1) :: seenM n F) (mkI n u) 1 = (mkI n s, 1) :: seenM n (F ++ [u])
    simp only [setM]
    rw [if_neg fun h => hn (by rw [mkI_inj (hF s (by simp)) hu h]; simp), ih]
theorem wd_yes {f : Nat → Bool} {k : Nat} (hk : k ≤ 62) (h : f k = true) : orI .u64 ((wd f k : Nat) : Int) (shlI .u64 1 ((k : Nat) : Int)) = ((wd f (k + 1) : Nat) : Int) := by
  rw [wd_add f hk]; simp [wd, h]
theorem wd_no {f : Nat → Bool} {k : Nat} (h : f k = false) : wd f (k + 1) = wd f k := by simp [wd, h]
end Go.Proofs.YtjlkhjgnfnfmgaaGreat
end
