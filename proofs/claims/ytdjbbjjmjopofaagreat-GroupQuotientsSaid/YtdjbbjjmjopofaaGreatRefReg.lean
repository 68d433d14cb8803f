/- The members of a set; regular matrices, by the reference. -/
import Derived.Test.YtdjbbjjmjopofaaGreatRefRees
namespace Go.Proofs.YtdjbbjjmjopofaaGreat
open Go Go.AM
set_option maxRecDepth 100000

/-- The members below k of a set, in order. -/
def memTo (l : List Bool) (k : Nat) : List Int := ((List.range k).filter fun i => l.getD i false).map fun i : Nat => (i : Int)
def memV (l : List Bool) : List Int := memTo l l.length
theorem memTo_yes {l : List Bool} {k : Nat} (h : l.getD k false = true) : memTo l (k + 1) = memTo l k ++ [(k : Int)] := by
  unfold memTo; rw [List.range_succ, List.filter_append, List.map_append, List.filter_cons_of_pos (p := fun i => l.getD i false) h]; rfl
theorem memTo_no {l : List Bool} {k : Nat} (h : l.getD k false = false) : memTo l (k + 1) = memTo l k := by
  unfold memTo; rw [List.range_succ, List.filter_append, List.map_append, List.filter_cons_of_neg (p := fun i => l.getD i false) (by rw [h]; decide)]; exact List.append_nil _
theorem memTo_len {l : List Bool} {k : Nat} : (memTo l k).length ≤ k := by
  unfold memTo; rw [List.length_map]
  exact Nat.le_trans (List.length_filter_le _ _) (by simp)
theorem members_k (l : List Bool) (hl : l.length ≤ 4096) : fnK TY SP Tryz.f125 [.ro (.bools l)] (.new (.ints .i64 (memV l))) := by
  refine Exists.intro [] <| lp (X := Nat) (fun k => [(8, .int .i64 k), (3, .vec 17)]) (fun k => [(17, .vec 0 (.ints .i64 (memTo l k)) [])]) (fun k => k ≤ l.length) (fun k => l.length - k) 0 (Nat.zero_le _) (by repeat' first | refine And.intro ?_ ?_ | exact True.intro | (show (_ : Int) = (_ : Int); omega) | omega | exact rfl | (simp only [RO.len]; omega)) ?_
  intro k hk
  have hm := memTo_len (l := l) (k := k)
  refine And.intro (fun h1 => ?_) (fun h1 => ?_)
  · refine And.intro (by omega) ?_
    refine And.intro (fun h2 => ?_) (fun h2 => ?_)
    · have h2 : l.getD k false = true := h2
      refine And.intro (by rw [List.length_append, List.length_singleton]; omega) ?_
      refine And.intro (by omega) ?_
      refine nx (k + 1) (by omega) (show l.length - (k + 1) < l.length - k by omega) ?_
      refine And.intro (by repeat' first | refine And.intro ?_ ?_ | exact True.intro | (show (_ : Int) = (_ : Int); omega) | omega | exact rfl | (simp only [RO.len]; omega)) (And.intro (And.intro (And.intro (by omega) (Nat.zero_le _)) (congrArg (RO.ints .i64) (memTo_yes h2).symm)) ?_)
      repeat' first | refine And.intro ?_ ?_ | exact True.intro | (show (_ : Int) = (_ : Int); omega) | omega | exact rfl | (simp only [RO.len]; omega)
    · have h2 : l.getD k false = false := h2
      refine And.intro (by omega) ?_
      refine nx (k + 1) (by omega) (show l.length - (k + 1) < l.length - k by omega) ?_
      refine And.intro (by repeat' first | refine And.intro ?_ ?_ | exact True.intro | (show (_ : Int) = (_ : Int); omega) | omega | exact rfl | (simp only [RO.len]; omega)) (And.intro (And.intro (And.intro (by omega) (Nat.zero_le _)) (congrArg (RO.ints .i64) (memTo_no h2).symm)) ?_)
      repeat' first | refine And.intro ?_ ?_ | exact True.intro | (show (_ : Int) = (_ : Int); omega) | omega | exact rfl | (simp only [RO.len]; omega)
  · have h1 : k = l.length := by omega
    refine And.intro ?_ trivial
    refine And.intro rfl ?_
    show RO.ints .i64 (memTo l k) = RO.ints .i64 (memTo l l.length)
    rw [h1]
theorem members_fn (l : List Bool) (hl : l.length ≤ 4096) : QF 125 [.ro (.bools l)] (.new (.ints .i64 (memV l))) := mkQ Tryz.func125 (by decide +kernel) rfl (Nat.le_of_ble_eq_true rfl) fun _ => members_k l hl

end Go.Proofs.YtdjbbjjmjopofaaGreat
