/- References: FromPairs, the generated congruence: contracts. -/
import Derived.Test.YteopelpnpdbbcaaEqP
import Derived.Test.YteopelpnpdbbcaaMerge
import Derived.Test.YteopelpnpdbbcaaRefPart
import Derived.Test.YteopelpnpdbbcaaLp
namespace Go.Proofs.Yteopelpnpdbbcaa
open Go Go.AM
set_option maxRecDepth 100000
theorem rpairs_k (n : Nat) (hn : n ≤ 4096) (l : List (Int × Int)) (hll : l.length ≤ 140737488355328) (hl : inW n l) : fnK TY SP Try.f67 [.int .i64 n, .ro (.pairs l)] (.new (.ints .i64 (eqP n (relP l)))) := by
  have n10 : ¬ (1 : Int) = ((0 : Nat) : Int) := by omega
  have n01 : ¬ (0 : Int) = ((0 + 1 : Nat) : Int) := by omega
  refine Or.inl (cq (rdis_fn n hn) (And.intro rfl trivial) ?_)
  refine Exists.intro [] <| lp2 (fun (i : Nat) (_ : List Int) => [(12, .int .i64 i)]) (fun _ p => [(9, .vec 0 (.ints .i64 p) [])]) (fun i p => i ≤ l.length ∧ KerOf n p (orR (fun _ _ => False) (l.take i))) (fun i _ => l.length - i) 0 (disI n) ⟨Nat.zero_le _, KerOf.dis fun a b h => h.elim id fun h => by simp [relP] at h⟩ (by repeat' first | refine And.intro ?_ ?_ | exact True.intro | (show (_ : Int) = (_ : Int); omega) | omega | exact rfl | (simp only [RO.len]; omega)) ?_
  rintro i p ⟨hi, hp⟩
  have hpl := hp.1
  refine And.intro (fun h1 => ?_) (fun h1 => ?_)
  · have h1 : (i : Int) < (l.length : Int) := h1
    have hil : i < l.length := by omega
    have hq := hl _ (getD_mem (d := ((0 : Int), (0 : Int))) (l := l) (i := i) hil)
    obtain ⟨a, ha⟩ : ∃ a : Nat, (a : Int) = (l.getD i (0, 0)).1 := ⟨_, Int.toNat_of_nonneg hq.1.1⟩
    obtain ⟨b, hb⟩ : ∃ b : Nat, (b : Int) = (l.getD i (0, 0)).2 := ⟨_, Int.toNat_of_nonneg hq.2.1⟩
    have hm := merge_fn p a b (by omega) (by omega) (by omega)
    rw [ha, hb] at hm
    have hn2 : KerOf n (mrgL p a b) (orR (fun _ _ => False) (l.take (i + 1))) := (hp.mrg (i := a) (j := b) (by omega) (by omega)).congr (fun x y h => .rel (by
        rw [take_get (d := (0, 0)) hil]
        rcases h with (h | h) | ⟨rfl, rfl⟩
        · exact .inl h
        · exact .inr (List.mem_append_left _ h)
        · refine .inr (List.mem_append_right _ (List.mem_singleton.2 ?_))
          rw [ha, hb])) fun x y h => .rel (by
        rw [take_get (d := (0, 0)) hil] at h
        rcases h with h | h
        · exact .inl (.inl h)
        · rcases List.mem_append.1 h with h | h
          · exact .inl (.inr h)
          · rw [List.mem_singleton] at h
            refine .inr ?_
            have h1 : (x : Int) = (l.getD i (0, 0)).1 := by rw [← h]
            have h2 : (y : Int) = (l.getD i (0, 0)).2 := by rw [← h]
            omega)
    refine And.intro (by omega) ?_
    refine And.intro (by omega) ?_
    refine And.intro (fun _ => ?_) (And.intro (fun h => absurd h n01) trivial)
    refine And.intro (by omega) ?_
    refine And.intro (fun h => absurd h n10) (And.intro (fun _ => ?_) trivial)
    refine Or.inr (Or.inl (cm [] [(1000, 9)] hm ?_))
    refine And.intro (by repeat' first | refine And.intro ?_ ?_ | exact True.intro | (show (_ : Int) = (_ : Int); omega) | omega | exact rfl | (simp only [RO.len]; omega)) ?_
    refine And.intro (by omega) ?_
    exact nx (i + 1, mrgL p a b) ⟨by omega, hn2⟩ (show l.length - (i + 1) < l.length - i by omega) (by repeat' first | refine And.intro ?_ ?_ | exact True.intro | (show (_ : Int) = (_ : Int); omega) | omega | exact rfl | (simp only [RO.len]; omega))
  · have h1 : (l.length : Int) ≤ (i : Int) := h1
    rw [List.take_of_length_le (by omega)] at hp
    have e : (if p.length ≤ 4096 then canon p else []) = eqP n (relP l) := by
      rw [if_pos (by omega)]
      exact eqP_of (hp.congr (fun a b h => h.elim (fun f => f.elim) .rel) fun a b h => .rel (.inr h))
    refine Or.inl (cq (rcanon_fn p) (And.intro rfl trivial) ?_)
    exact And.intro (And.intro (by omega) (congrArg (RO.ints .i64) e)) trivial
theorem rpairs_fn (n : Nat) (hn : n ≤ 4096) (l : List (Int × Int)) (hl : inW n l) : QF 67 [.int .i64 n, .ro (.pairs l)] (.new (.ints .i64 (eqP n (relP l)))) := mkQ Try.func67 (by decide +kernel) rfl (Nat.le_of_ble_eq_true rfl) fun hf => rpairs_k n hn l hf.2.1.1 hl
end Go.Proofs.Yteopelpnpdbbcaa
