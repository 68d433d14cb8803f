import Derived.Test.YtdjbbjjmjopofaaGreatSgpLaw
import Derived.Test.YtdjbbjjmjopofaaGreatGrp
import Derived.Test.YtdjbbjjmjopofaaGreatIdealLaw
import Derived.Test.YtdjbbjjmjopofaaGreatGroup
/- Package group: parts of a group, subgroups, conjugates: contracts. -/
namespace Go.Proofs.YtdjbbjjmjopofaaGreat
open Go Go.AM
set_option maxRecDepth 100000

theorem gmem_k (t : List (List Int)) (l : List Int) (hn : t.length ≤ 400) (hl : inT t l) (hll : l.length ≤ 140737488355328) : fnK TY SP Tryz.f123 [frA t, .ro (.ints .i64 l)] (.new (.bools (setB t.length (setI l)))) := by
  refine And.intro (by omega) ?_
  refine And.intro (by omega) ?_
  refine Exists.intro [] <| lp2 (fun (i : Nat) (_ : List Bool) => [(14, .int .i64 i)]) (fun _ r => [(11, .vec 0 (.bools r) [])]) (fun i r => i ≤ l.length ∧ r.length = t.length ∧ ∀ x, x < t.length → (r.getD x false = true ↔ (x : Int) ∈ l.take i)) (fun i _ => l.length - i) 0 (List.replicate t.length false) ⟨Nat.zero_le _, by simp, fun x hx => by rw [rep_false]; simp⟩ (by repeat' first | refine And.intro ?_ ?_ | exact True.intro | (show (_ : Int) = (_ : Int); omega) | omega | exact rfl | (simp only [RO.len]; omega)) ?_
  rintro i r ⟨hi, hr, hs⟩
  refine And.intro (fun h1 => ?_) (fun h1 => ?_)
  · have hil : i < l.length := by omega
    have hm := hl _ (getD_mem (d := 0) hil)
    refine And.intro (by omega) ?_
    refine And.intro (show 0 ≤ l.getD i 0 ∧ l.getD i 0 < (r.length : Int) by omega) ?_
    refine And.intro (show (0 : Int) ≤ l.getD i 0 by omega) ?_
    refine And.intro (by omega) ?_
    have hnx := set_iff hr hs (i := (l.getD i 0).toNat) (by omega)
    refine nx (i + 1, r.set (l.getD i 0).toNat true) ⟨by omega, hnx.1, fun x hx => ?_⟩ (show l.length - (i + 1) < l.length - i by omega) (by repeat' first | refine And.intro ?_ ?_ | exact True.intro | (show (_ : Int) = (_ : Int); omega) | omega | exact rfl | (simp only [RO.len]; omega))
    rw [hnx.2 x hx, take_snoc (d := 0) hil, List.mem_append, List.mem_singleton]
    exact or_congr Iff.rfl ⟨fun h => by omega, fun h => by omega⟩
  · refine And.intro ?_ trivial
    refine And.intro rfl ?_
    exact congrArg RO.bools (setB_ofP hr fun x hx => by rw [hs x hx, List.take_of_length_le (by omega), setI_iff])
theorem gmem_fn (t : List (List Int)) (l : List Int) (hn : t.length ≤ 400) (hl : inT t l) : QF 123 [frA t, .ro (.ints .i64 l)] (.new (.bools (setB t.length (setI l)))) := mkQ Tryz.func123 (by decide +kernel) rfl (Nat.le_of_ble_eq_true rfl) fun hf => gmem_k t l hn hl hf.2.1.1

theorem glist_k (l : List Bool) (hl : l.length ≤ 4096) : fnK TY SP Tryz.f75 [.ro (.bools l)] (.new (.ints .i64 (memV l))) := members_k l hl
theorem glist_fn (l : List Bool) (hl : l.length ≤ 4096) : QF 75 [.ro (.bools l)] (.new (.ints .i64 (memV l))) := mkQ Tryz.func75 (by decide +kernel) rfl (Nat.le_of_ble_eq_true rfl) fun _ => glist_k l hl

theorem gcj_k (t : List (List Int)) (h : Grp t) (x y : Nat) (hx : x < t.length) (hy : y < t.length) : fnK TY SP Tryz.f121 [frA t, .int .i64 x, .int .i64 y] (.int .i64 (cjN t x y)) := by
  have hs := h.toSh
  have hm := hs.most
  have r1 := hs.len hx
  have e1 := hs.ent hx hy
  have r2 := hs.len e1.2
  have hi := h.ninv hx
  have e2 := hs.ent e1.2 hi.1
  have il := invL_len (t := t)
  have ig := invL_get hx
  refine Or.inl ?_
  refine Exists.intro [false, false, false, false, false, false, false, false, false, false, false, false, false, false, false, false, false, false, false, false] (And.intro (by decide +kernel) ?_)
  refine And.intro (by omega) ?_
  refine And.intro (by rw [Int.toNat_natCast]; omega) ?_
  refine And.intro (by simp only [Int.toNat_natCast]; omega) ?_
  refine And.intro (by omega) ?_
  refine And.intro (by simp only [Int.toNat_natCast, ig, e1.1, r2]; omega) ?_
  refine And.intro ?_ trivial
  simp only [Int.toNat_natCast, ig, e1.1]
  exact e2.1
theorem gcj_fn (t : List (List Int)) (h : Grp t) (x y : Nat) (hx : x < t.length) (hy : y < t.length) : QF 121 [frA t, .int .i64 x, .int .i64 y] (.int .i64 (cjN t x y)) := mkQ Tryz.func121 (by decide +kernel) rfl (Nat.le_of_ble_eq_true rfl) fun _ => gcj_k t h x y hx hy

theorem gall_k (t : List (List Int)) (hn : t.length ≤ 400) : fnK TY SP Tryz.f72 [frA t] (.new (.ints .i64 (allI t))) := by
  refine And.intro (by omega) ?_
  refine And.intro (by omega) ?_
  refine Exists.intro [] <| lp2 (fun (k : Nat) (_ : List Int) => [(11, .int .i64 k)]) (fun _ L => [(8, .vec 0 (.ints .i64 L) [])]) (fun k L => k ≤ t.length ∧ L.length = t.length ∧ ∀ j, j < k → L.getD j 0 = (j : Int)) (fun k _ => t.length - k) 0 (List.replicate t.length 0) ⟨Nat.zero_le _, by simp, by omega⟩ (by repeat' first | refine And.intro ?_ ?_ | exact True.intro | (show (_ : Int) = (_ : Int); omega) | omega | exact rfl | (simp; omega)) ?_
  rintro k L ⟨hk, hL, hj⟩
  refine And.intro (fun h1 => ?_) (fun h1 => ?_)
  · have h1 : (k : Int) < ((List.replicate ((t.length : Nat) : Int).toNat (0 : Int)).length : Int) := h1
    rw [List.length_replicate, Int.toNat_natCast] at h1
    have hkl : k < t.length := by omega
    refine And.intro (show 0 ≤ (k : Int) ∧ (k : Int) < (L.length : Int) by omega) ?_
    refine And.intro (by omega) ?_
    refine And.intro (by omega) ?_
    refine nx (k + 1, L.set k (k : Int)) ⟨by omega, by rw [List.length_set]; exact hL, fun j hj' => ?_⟩ (show t.length - (k + 1) < t.length - k by omega) (by repeat' first | refine And.intro ?_ ?_ | exact True.intro | (show (_ : Int) = (_ : Int); omega) | omega | exact rfl | (simp only [RO.len]; omega))
    by_cases e : j = k
    · subst e; rw [getD_set_eq (by omega)]
    · rw [getD_set_ne (Ne.symm e)]; exact hj j (by omega)
  · have h1 : ((List.replicate ((t.length : Nat) : Int).toNat (0 : Int)).length : Int) ≤ (k : Int) := h1
    rw [List.length_replicate, Int.toNat_natCast] at h1
    refine And.intro (And.intro (by omega) ?_) trivial
    refine congrArg (RO.ints .i64) (ext_getD 0 (by rw [disI_len]; exact hL) fun j hj' => ?_)
    rw [hj j (by omega), disI_get (by omega)]
theorem gall_fn (t : List (List Int)) (hn : t.length ≤ 400) : QF 72 [frA t] (.new (.ints .i64 (allI t))) := mkQ Tryz.func72 (by decide +kernel) rfl (Nat.le_of_ble_eq_true rfl) fun _ => gall_k t hn

end Go.Proofs.YtdjbbjjmjopofaaGreat
