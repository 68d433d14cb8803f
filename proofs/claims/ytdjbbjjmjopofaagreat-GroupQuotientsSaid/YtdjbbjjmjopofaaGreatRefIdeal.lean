/- The reference of ideals: its contracts (generated ideals, the kernel, which lists are ideals). -/
import Derived.Test.YtdjbbjjmjopofaaGreatIdealLaw
import Derived.Test.YtdjbbjjmjopofaaGreatGroup
namespace Go.Proofs.YtdjbbjjmjopofaaGreat
open Go Go.AM
set_option maxRecDepth 100000

theorem rasc_k (t : List (List Int)) (l : List Int) (hll : l.length ≤ 140737488355328) : fnK TY SP Tryz.f82 [.ro (.rows .i64 t), .ro (.ints .i64 l)] (.bool (.v (ascB t l))) := by
  refine Exists.intro [] <| lp (X := Nat) (fun i => [(9, .int .i64 i)]) (fun _ => []) (fun i => AscTo t l i) (fun i => l.length - i) 0 .start (by repeat' first | refine And.intro ?_ ?_ | exact True.intro | (show (_ : Int) = (_ : Int); omega) | omega | exact rfl | (simp only [RO.len]; omega)) ?_
  intro i H
  have hi := H.le
  refine And.intro (fun h1 => ?_) (fun h1 => ?_)
  · have hil : i < l.length := by omega
    have no : ¬ (0 ≤ l.getD i 0 ∧ l.getD i 0 < (t.length : Int)) → false = ascB t l := fun hn => (ascB_false.2 fun hh => hn (hh.2.2 _ (getD_mem hil))).symm
    refine And.intro (by omega) ?_
    refine And.intro (fun h2 => ?_) (fun h2 => ?_)
    · have h2 : l.getD i 0 < 0 := h2
      exact And.intro (no (by omega)) trivial
    · have h2 : 0 ≤ l.getD i 0 := h2
      refine And.intro (fun h3 => ?_) (fun h3 => ?_)
      · have h3 : (t.length : Int) ≤ l.getD i 0 := h3
        exact And.intro (no (by omega)) trivial
      · have h3 : l.getD i 0 < (t.length : Int) := h3
        refine And.intro (fun h4 => ?_) (fun h4 => ?_)
        · refine And.intro (by omega) ?_
          refine And.intro (by omega) ?_
          have e1 : ((i : Int) - 1).toNat = i - 1 := by omega
          refine And.intro (fun h5 => ?_) (fun h5 => ?_)
          · have h5 : l.getD i 0 ≤ l.getD ((i : Int) - 1).toNat 0 := h5
            rw [e1] at h5
            refine And.intro ?_ trivial
            refine (ascB_false.2 fun hh => ?_).symm
            have := hh.2.1 (i - 1) (by omega)
            rw [show i - 1 + 1 = i by omega] at this
            omega
          · have h5 : l.getD ((i : Int) - 1).toNat 0 < l.getD i 0 := h5
            rw [e1] at h5
            refine And.intro (by omega) ?_
            exact nx (i + 1) (H.next hil h2 h3 fun _ => h5) (show l.length - (i + 1) < l.length - i by omega) (by repeat' first | refine And.intro ?_ ?_ | exact True.intro | (show (_ : Int) = (_ : Int); omega) | omega | exact rfl | (simp only [RO.len]; omega))
        · refine And.intro (by omega) ?_
          exact nx (i + 1) (H.next hil h2 h3 fun _ => by omega) (show l.length - (i + 1) < l.length - i by omega) (by repeat' first | refine And.intro ?_ ?_ | exact True.intro | (show (_ : Int) = (_ : Int); omega) | omega | exact rfl | (simp only [RO.len]; omega))
  · obtain ⟨hasc, hin⟩ := H.done (by omega)
    refine And.intro ?_ trivial
    show decide ((0 : Int) < (l.length : Int)) = ascB t l
    by_cases h0 : 0 < l.length
    · rw [ascB_true.2 ⟨h0, hasc, hin⟩]
      exact decide_eq_true (by omega)
    · rw [ascB_false.2 fun hh => h0 hh.1]
      exact decide_eq_false (by omega)
theorem rasc_fn (t : List (List Int)) (l : List Int) : QF 82 [.ro (.rows .i64 t), .ro (.ints .i64 l)] (.bool (.v (ascB t l))) := mkQ Tryz.func82 (by decide +kernel) rfl (Nat.le_of_ble_eq_true rfl) fun hf => rasc_k t l hf.2.1.1


end Go.Proofs.YtdjbbjjmjopofaaGreat
