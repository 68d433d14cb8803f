/- The members of a set; regular matrices, by the reference. -/
import Derived.Test.YtmdlfcjbjjifoaaRefRees
namespace Go.Proofs.Ytmdlfcjbjjifoaa
open Go Go.AM
set_option maxRecDepth 100000

/-- The members below k of a set, in order. -/
def memTo (l : List Bool) (k : Nat) : List Int := ((List.range k).filter fun i => l.getD i false).map fun i : Nat => (i : Int)
def memV (l : List Bool) : List Int := memTo l l.length
theorem memTo_yes {l : List Bool} {k : Nat} (h : l.getD k false = true) : memTo l (k + 1) = memTo l k ++ [(k : Int)] := by
  unfold memTo; rw [List.range_succ, List.filter_append, List.map_append, List.filter_cons_of_pos (p := fun i => l.getD i false) h]; rfl
theorem memTo_no {l : List Bool} {k : Nat} (h : l.getD k false = false) : memTo l (k + 1) = memTo l k := by
  unfold memTo; rw [List.range_succ, List.filter_append, List.map_append, List.filter_cons_of_neg (p := fun i => l.getD i false) (by rw [h]; decide)]; exact List.append_nil _
theorem memTo_len {l : List Bool} {k : Nat} : (memTo l k).length ≤ k := by
  unfold memTo; rw [List.length_map]
  exact Nat.le_trans (List.length_filter_le _ _) (by simp)
theorem memV_all {l : List Bool} : (memV l).length = l.length ↔ ∀ q, q < l.length → l.getD q false = true := by
  unfold memV memTo
  rw [List.length_map]
  have := List.length_filter_eq_length_iff (l := List.range l.length) (p := fun i => l.getD i false)
  rw [List.length_range] at this
  rw [this]
  simp

theorem members_k (l : List Bool) (hl : l.length ≤ 4096) : fnK TY SP Try.f43 [.ro (.bools l)] (.new (.ints .i64 (memV l))) := by
  refine Exists.intro [] <| lp (X := Nat) (fun k => [(8, .int .i64 k), (3, .vec 17)]) (fun k => [(17, .vec 0 (.ints .i64 (memTo l k)) [])]) (fun k => k ≤ l.length) (fun k => l.length - k) 0 (Nat.zero_le _) (by repeat' first | refine And.intro ?_ ?_ | exact True.intro | (show (_ : Int) = (_ : Int); omega) | omega | exact rfl | (simp only [RO.len]; omega)) ?_
  intro k hk
  have hm := memTo_len (l := l) (k := k)
  refine And.intro (fun h1 => ?_) (fun h1 => ?_)
  · refine And.intro (by omega) ?_
    refine And.intro (fun h2 => ?_) (fun h2 => ?_)
    · have h2 : l.getD k false = true := h2
      refine And.intro (by rw [List.length_append, List.length_singleton]; omega) ?_
      refine And.intro (by omega) ?_
      refine nx (k + 1) (by omega) (show l.length - (k + 1) < l.length - k by omega) ?_
      refine And.intro (by repeat' first | refine And.intro ?_ ?_ | exact True.intro | (show (_ : Int) = (_ : Int); omega) | omega | exact rfl | (simp only [RO.len]; omega)) (And.intro (And.intro (And.intro (by omega) (Nat.zero_le _)) (congrArg (RO.ints .i64) (memTo_yes h2).symm)) ?_)
      repeat' first | refine And.intro ?_ ?_ | exact True.intro | (show (_ : Int) = (_ : Int); omega) | omega | exact rfl | (simp only [RO.len]; omega)
    · have h2 : l.getD k false = false := h2
      refine And.intro (by omega) ?_
      refine nx (k + 1) (by omega) (show l.length - (k + 1) < l.length - k by omega) ?_
      refine And.intro (by repeat' first | refine And.intro ?_ ?_ | exact True.intro | (show (_ : Int) = (_ : Int); omega) | omega | exact rfl | (simp only [RO.len]; omega)) (And.intro (And.intro (And.intro (by omega) (Nat.zero_le _)) (congrArg (RO.ints .i64) (memTo_no h2).symm)) ?_)
      repeat' first | refine And.intro ?_ ?_ | exact True.intro | (show (_ : Int) = (_ : Int); omega) | omega | exact rfl | (simp only [RO.len]; omega)
  · have h1 : k = l.length := by omega
    refine And.intro ?_ trivial
    refine And.intro rfl ?_
    show RO.ints .i64 (memTo l k) = RO.ints .i64 (memTo l l.length)
    rw [h1]
theorem members_fn (l : List Bool) (hl : l.length ≤ 4096) : QF 43 [.ro (.bools l)] (.new (.ints .i64 (memV l))) := mkQ Try.func43 (by decide +kernel) rfl (Nat.le_of_ble_eq_true rfl) fun _ => members_k l hl

theorem rreg_k (G : List (List Int)) (R C : Int) (P : List (List Int)) (z : Bool) (h : Rees G R C P z) : fnK TY SP Try.f20 [rav G R C P z] (.bool (.v (regB R P))) := by
  have hle := h.le
  have hpl := h.sh.p
  refine And.intro (by omega) ?_
  refine And.intro (by omega) ?_
  refine Exists.intro [] <| lp2 (fun (k : Nat) (met : List Bool) => [(15, .int .i64 k)]) (fun k met => [(11, .vec 0 (.bools met) [])])
    (fun k met => k ≤ P.length ∧ met.length = R.toNat ∧ Met P k 0 met ∧ ∀ j, j < k → ∃ i : Nat, (i : Int) < R ∧ 0 ≤ (P.getD j []).getD i 0) (fun k _ => P.length - k) 0 (List.replicate R.toNat false) ⟨Nat.zero_le _, by simp, met_start _ _, by omega⟩ (by repeat' first | refine And.intro ?_ ?_ | exact True.intro | (show (_ : Int) = (_ : Int); omega) | omega | exact rfl | (simp; omega)) ?_
  intro k met hk
  have hml := hk.2.1
  refine And.intro (fun h2 => ?_) (fun h2 => ?_)
  · have hkl : k < P.length := by omega
    have hrow := h.sh.rows _ (getD_mem (d := []) hkl)
    refine And.intro (by omega) ?_
    refine Exists.intro [] <| lp3 (fun (i : Nat) (any : Bool) (met : List Bool) => [(21, .int .i64 i), (6, .bool (.v any))]) (fun i any met => [(11, .vec 0 (.bools met) [])])
      (fun i any met => i ≤ (P.getD k []).length ∧ met.length = R.toNat ∧ Met P k i met ∧ (any = true ↔ ∃ i' : Nat, i' < i ∧ 0 ≤ (P.getD k []).getD i' 0)) (fun i _ _ => (P.getD k []).length - i) 0 false met ⟨Nat.zero_le _, hml, hk.2.2.1, ⟨fun h => (by cases h), fun ⟨i, h, _⟩ => by omega⟩⟩ (by repeat' first | refine And.intro ?_ ?_ | exact True.intro | (show (_ : Int) = (_ : Int); omega) | omega | exact rfl | (simp only [RO.len]; omega)) ?_
    intro i any met2 hi
    have hml2 := hi.2.1
    refine And.intro (fun h3 => ?_) (fun h3 => ?_)
    · have h3 : i < (P.getD k []).length := by
        replace h3 : (i : Int) < ((P.getD k []).length : Int) := h3
        omega
      have hrl := hrow.1
      refine And.intro ⟨by omega, show (i : Int) < ((P.getD k []).length : Int) by omega⟩ ?_
      refine And.intro (fun h4 => ?_) (fun h4 => ?_)
      · have h4 : 0 ≤ (P.getD k []).getD i 0 := h4
        refine And.intro (by omega) ?_
        refine And.intro (by omega) ?_
        refine And.intro (by omega) ?_
        refine nx (i + 1, true, met2.set i true) ⟨by omega, by rw [List.length_set]; exact hml2, met_yes hi.2.2.1 (by omega) h4, ⟨fun _ => ⟨i, by omega, h4⟩, fun _ => rfl⟩⟩ (show (P.getD k []).length - (i + 1) < (P.getD k []).length - i by omega) (by repeat' first | refine And.intro ?_ ?_ | exact True.intro | (show (_ : Int) = (_ : Int); omega) | omega | exact rfl | (simp only [RO.len]; omega))
      · have h4 : (P.getD k []).getD i 0 < 0 := h4
        refine And.intro (by omega) ?_
        refine nx (i + 1, any, met2) ⟨by omega, hml2, met_no hi.2.2.1 h4, any_no hi.2.2.2 h4⟩ (show (P.getD k []).length - (i + 1) < (P.getD k []).length - i by omega) (by repeat' first | refine And.intro ?_ ?_ | exact True.intro | (show (_ : Int) = (_ : Int); omega) | omega | exact rfl | (simp only [RO.len]; omega))
    · have h3 : (P.getD k []).length ≤ i := by
        replace h3 : ((P.getD k []).length : Int) ≤ (i : Int) := h3
        omega
      have hrl := hrow.1
      refine And.intro (fun h4 => ?_) (fun h4 => ?_)
      · refine And.intro ?_ trivial
        show false = regB R P
        symm
        rw [regB_false]
        intro hr
        obtain ⟨i', h5, h6⟩ := hr.1 k hkl
        have := hi.2.2.2.2 ⟨i', by omega, h6⟩
        rw [this] at h4; cases h4
      · have h4 : any = true := by simpa using h4
        refine And.intro (by omega) ?_
        refine nx (k + 1, met2) ⟨by omega, hml2, met_row hi.2.2.1 (by omega), fun j hj => ?_⟩ (show P.length - (k + 1) < P.length - k by omega) (by repeat' first | refine And.intro ?_ ?_ | exact True.intro | (show (_ : Int) = (_ : Int); omega) | omega | exact rfl | (simp only [RO.len]; omega))
        by_cases hjk : j < k
        · exact hk.2.2.2 j hjk
        · have : j = k := by omega
          rw [this]
          obtain ⟨i', h5, h6⟩ := hi.2.2.2.1 h4
          exact ⟨i', by omega, h6⟩
  · have hkP : k = P.length := by omega
    refine Exists.intro [false, false, false, false, false, false, false] (And.intro (by decide +kernel) ?_)
    refine cq (members_fn met (by omega)) (And.intro rfl trivial) ?_
    refine And.intro ?_ trivial
    show decide ((memV met).length = R) = regB R P
    unfold regB
    refine decide_eq_decide.2 ?_
    have hall := memV_all (l := met)
    constructor
    · intro hlen
      have hq := hall.1 (by omega)
      refine ⟨fun j hj => hk.2.2.2 j (by omega), fun i hi => ?_⟩
      obtain ⟨j, h5, h6⟩ := (hk.2.2.1 i (by omega)).1 (hq i (by omega))
      exact ⟨j, by omega, h6⟩
    · intro hr
      have := hall.2 fun q hq => by
        obtain ⟨j, h5, h6⟩ := hr.2 q (by omega)
        exact (hk.2.2.1 q hq).2 ⟨j, by omega, h6⟩
      omega
theorem rreg_fn (G : List (List Int)) (R C : Int) (P : List (List Int)) (z : Bool) (h : Rees G R C P z) : QF 20 [rav G R C P z] (.bool (.v (regB R P))) := mkQ Try.func20 (by decide +kernel) rfl (Nat.le_of_ble_eq_true rfl) fun _ => rreg_k G R C P z h
end Go.Proofs.Ytmdlfcjbjjifoaa
