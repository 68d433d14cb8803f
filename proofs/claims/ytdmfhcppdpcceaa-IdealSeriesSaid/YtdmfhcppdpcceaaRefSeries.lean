/- The reference of Series: contract. -/
import Derived.Test.YtdmfhcppdpcceaaSerLaw
import Derived.Test.YtdmfhcppdpcceaaRefClass
namespace Go.Proofs.Ytdmfhcppdpcceaa
open Go Go.AM
set_option maxRecDepth 100000
set_option maxHeartbeats 1000000
theorem rseries_k (t : List (List Int)) (h : Semi t) : fnK TY SP Try.f43 [.ro (.rows .i64 t)] (.ro (.rows .i64 (serV t))) := by
  have hsh := h.toSh
  have hmost := h.most
  have hJ := numJ_le t
  have hcl := classJ_len t
  refine Or.inl (cq (rgreen_fn t h) (And.intro rfl trivial) ?_)
  have hbl := belowL_len t
  have e0 : List.replicate (((belowL t).length : Nat) : Int).toNat false = us t 0 := by rw [Int.toNat_natCast, hbl]; rfl
  refine And.intro (by omega) ?_
  refine And.intro (by omega) ?_
  refine Exists.intro [] <| lp (X := Nat) (fun s => [(5, .vec 91)]) (fun s => [(18, .vec 0 (.bools (us t s)) []), (91, .vec 0 (.rows .i64 ((serV t).take s)) [])]) (fun s => s ≤ numJ t) (fun s => numJ t - s) 0 (Nat.zero_le _) (by repeat' first | refine And.intro ?_ ?_ | exact True.intro | exact congrArg RO.bools e0 | (show (_ : Int) = (_ : Int); omega) | omega | exact rfl) ?_
  intro s hs
  have hul := us_len t s
  refine Exists.intro [] <| lp (X := Nat) (fun i => [(21, .int .i64 i), (6, .int .i64 (fstOk t (us t s) i))]) (fun _ => []) (fun i => i ≤ numJ t) (fun i => numJ t - i) 0 (Nat.zero_le _) (by repeat' first | refine And.intro ?_ ?_ | exact True.intro | (show (_ : Int) = (_ : Int); omega) | omega | exact rfl | (simp only [RO.len]; omega)) ?_
  intro i hi
  refine And.intro (fun h1 => ?_) (fun h1 => ?_)
  · have h1 : (i : Int) < ((us t s).length : Int) := h1
    have hil : i < numJ t := by omega
    refine And.intro (by omega) ?_
    refine Exists.intro [] <| lp (X := Nat) (fun k => [(31, .int .i64 k), (8, .bool (.v (okTo t (us t s) i k)))]) (fun _ => []) (fun k => k ≤ numJ t) (fun k => numJ t - k) 0 (Nat.zero_le _) (by repeat' first | refine And.intro ?_ ?_ | exact True.intro | exact (okTo_zero _ _ _).symm | (show (_ : Int) = (_ : Int); omega) | omega | exact rfl) ?_
    intro k hk
    refine And.intro (fun h2 => ?_) (fun h2 => ?_)
    · have h2 : (k : Int) < ((us t s).length : Int) := h2
      have hkl : k < numJ t := by omega
      have hs1 := okTo_succ t (us t s) i k
      have hb := bel_get (t := t) hkl hil
      have hbr : ((belowL t).getD k []).length = numJ t := by rw [belowL_row hkl]; simp
      refine And.intro (fun h3 => ?_) (fun h3 => ?_)
      · have h3 : okTo t (us t s) i k = true := h3
        refine And.intro (fun h4 => ?_) (fun h4 => ?_)
        · have h4 : (k : Int) = (i : Int) := h4
          have ek : true = okTo t (us t s) i (k + 1) := by rw [hs1, h3, decide_eq_true (show k = i by omega)]; rfl
          refine And.intro (by omega) ?_
          refine nx (k + 1) (show k + 1 ≤ numJ t by omega) (show numJ t - (k + 1) < numJ t - k by omega) ?_
          repeat' first | refine And.intro ?_ ?_ | exact True.intro | exact ek | (show (_ : Int) = (_ : Int); omega) | omega | exact rfl
        · have h4 : (k : Int) ≠ (i : Int) := h4
          refine And.intro (by omega) ?_
          refine And.intro (fun h5 => ?_) (fun h5 => ?_)
          · have h5 : (us t s).getD k false = true := h5
            have ek : true = okTo t (us t s) i (k + 1) := by rw [hs1, h3, h5]; simp
            refine And.intro (by omega) ?_
            refine nx (k + 1) (show k + 1 ≤ numJ t by omega) (show numJ t - (k + 1) < numJ t - k by omega) ?_
            repeat' first | refine And.intro ?_ ?_ | exact True.intro | exact ek | (show (_ : Int) = (_ : Int); omega) | omega | exact rfl
          · have h5 : (us t s).getD k false = false := h5
            have ek : (!((belowL t).getD k []).getD i false) = okTo t (us t s) i (k + 1) := by rw [hs1, h3, h5, hb, decide_eq_false (show ¬ k = i by omega)]; rfl
            refine And.intro (by omega) ?_
            refine And.intro (show 0 ≤ (i : Int) ∧ (i : Int) < (((belowL t).getD k []).length : Int) by omega) ?_
            refine And.intro (by omega) ?_
            refine nx (k + 1) (show k + 1 ≤ numJ t by omega) (show numJ t - (k + 1) < numJ t - k by omega) ?_
            repeat' first | refine And.intro ?_ ?_ | exact True.intro | exact ek | (show (_ : Int) = (_ : Int); omega) | omega | exact rfl
      · have h3 : okTo t (us t s) i k = false := h3
        have ek : false = okTo t (us t s) i (k + 1) := by rw [hs1, h3]; rfl
        refine And.intro (by omega) ?_
        refine nx (k + 1) (show k + 1 ≤ numJ t by omega) (show numJ t - (k + 1) < numJ t - k by omega) ?_
        repeat' first | refine And.intro ?_ ?_ | exact True.intro | exact ek | (show (_ : Int) = (_ : Int); omega) | omega | exact rfl
    · have h2 : ((us t s).length : Int) ≤ (k : Int) := h2
      have hkn : okTo t (us t s) i k = okN t (us t s) i := by rw [show k = numJ t by omega]; rfl
      refine And.intro (fun h3 => ?_) (fun h3 => ?_)
      · have h3 : okTo t (us t s) i k = true := h3
        rw [hkn] at h3
        refine And.intro (fun h4 => ?_) (fun h4 => ?_)
        · have h4 : fstOk t (us t s) i < 0 := h4
          have ek : (i : Int) = fstOk t (us t s) (i + 1) := by simp only [fstOk]; rw [if_pos h4, if_pos h3]
          refine And.intro (by omega) ?_
          refine nx (i + 1) (show i + 1 ≤ numJ t by omega) (show numJ t - (i + 1) < numJ t - i by omega) ?_
          repeat' first | refine And.intro ?_ ?_ | exact True.intro | exact ek | (show (_ : Int) = (_ : Int); omega) | omega | exact rfl
        · have h4 : 0 ≤ fstOk t (us t s) i := h4
          have ek : fstOk t (us t s) i = fstOk t (us t s) (i + 1) := by simp only [fstOk]; rw [if_neg (by omega)]
          refine And.intro (by omega) ?_
          refine nx (i + 1) (show i + 1 ≤ numJ t by omega) (show numJ t - (i + 1) < numJ t - i by omega) ?_
          repeat' first | refine And.intro ?_ ?_ | exact True.intro | exact ek | (show (_ : Int) = (_ : Int); omega) | omega | exact rfl
      · have h3 : okTo t (us t s) i k = false := h3
        rw [hkn] at h3
        have ek : fstOk t (us t s) i = fstOk t (us t s) (i + 1) := by
          simp only [fstOk]
          by_cases e : fstOk t (us t s) i < 0
          · rw [if_pos e, h3, if_neg (by simp)]
            exact fstOk_m1 e
          · rw [if_neg e]
        refine And.intro (by omega) ?_
        refine nx (i + 1) (show i + 1 ≤ numJ t by omega) (show numJ t - (i + 1) < numJ t - i by omega) ?_
        repeat' first | refine And.intro ?_ ?_ | exact True.intro | exact ek | (show (_ : Int) = (_ : Int); omega) | omega | exact rfl
  · have h1 : ((us t s).length : Int) ≤ (i : Int) := h1
    have hin : i = numJ t := by omega
    subst hin
    refine And.intro (fun h2 => ?_) (fun h2 => ?_)
    · have h2 : fstOk t (us t s) (numJ t) < 0 := h2
      have hsn : s = numJ t := by
        rcases Nat.lt_or_ge s (numJ t) with e | e
        · have := us_next h e; omega
        · omega
      refine And.intro (And.intro trivial ?_) trivial
      show RO.rows .i64 ((serV t).take s) = RO.rows .i64 (serV t)
      rw [List.take_of_length_le (by rw [serV_len]; omega)]
    · have h2 : 0 ≤ fstOk t (us t s) (numJ t) := h2
      have hsl : s < numJ t := by
        rcases Nat.lt_or_ge s (numJ t) with e | e
        · exact e
        · have hs' : s = numJ t := by omega
          rw [hs'] at h2
          have := us_end h; omega
      have hnx := us_next h hsl
      have hu1 := us_len t (s + 1)
      refine And.intro (by omega) ?_
      refine And.intro (by omega) ?_
      refine Exists.intro [] <| lp (X := Nat) (fun x => [(74, .int .i64 x), (10, .vec 86)]) (fun x => [(18, .vec 0 (.bools (us t (s + 1))) []), (86, .vec 0 (.ints .i64 (memTo (setB t.length (inS t (us t (s + 1)))) x)) [])]) (fun x => x ≤ t.length) (fun x => t.length - x) 0 (Nat.zero_le _) (by repeat' first | refine And.intro ?_ ?_ | exact True.intro | (show (_ : Int) = (_ : Int); omega) | omega | exact rfl | (simp only [RO.len]; omega)) ?_
      intro x hx
      have hm := memTo_len (l := setB t.length (inS t (us t (s + 1)))) (k := x)
      refine And.intro (fun h3 => ?_) (fun h3 => ?_)
      · have h3 : (x : Int) < ((classJ t).length : Int) := h3
        have hxl : x < t.length := by omega
        have hc := classJ_lt t hxl
        refine And.intro (by omega) ?_
        refine And.intro (by simp only [Int.toNat_natCast]; omega) ?_
        refine And.intro (fun h4 => ?_) (fun h4 => ?_)
        · have h4 : inS t (us t (s + 1)) x = true := h4
          have ek : memTo (setB t.length (inS t (us t (s + 1)))) x ++ [(x : Int)] = memTo (setB t.length (inS t (us t (s + 1)))) (x + 1) := (memTo_yes (by rw [setB_get hxl]; exact h4)).symm
          refine And.intro (by simp; omega) ?_
          refine And.intro (by omega) ?_
          refine nx (x + 1) (show x + 1 ≤ t.length by omega) (show t.length - (x + 1) < t.length - x by omega) ?_
          repeat' first | refine And.intro ?_ ?_ | exact True.intro | exact congrArg (RO.ints .i64) ek | exact congrArg (RO.rows .i64) ek | (show (_ : Int) = (_ : Int); omega) | omega | exact rfl
        · have h4 : inS t (us t (s + 1)) x = false := h4
          have ek : memTo (setB t.length (inS t (us t (s + 1)))) x = memTo (setB t.length (inS t (us t (s + 1)))) (x + 1) := (memTo_no (by rw [setB_get hxl]; exact h4)).symm
          refine And.intro (by omega) ?_
          refine nx (x + 1) (show x + 1 ≤ t.length by omega) (show t.length - (x + 1) < t.length - x by omega) ?_
          repeat' first | refine And.intro ?_ ?_ | exact True.intro | exact congrArg (RO.ints .i64) ek | exact congrArg (RO.rows .i64) ek | (show (_ : Int) = (_ : Int); omega) | omega | exact rfl
      · have h3 : ((classJ t).length : Int) ≤ (x : Int) := h3
        have ek : (serV t).take s ++ [memTo (setB t.length (inS t (us t (s + 1)))) x] = (serV t).take (s + 1) := by
          rw [take_snoc (d := []) (by rw [serV_len]; exact hsl), serV_get hsl, show x = t.length by omega]
          unfold ascV memV; rw [setB_len]
        refine And.intro (by simp; omega) ?_
        refine nx (s + 1) (show s + 1 ≤ numJ t by omega) (show numJ t - (s + 1) < numJ t - s by omega) ?_
        repeat' first | refine And.intro ?_ ?_ | exact True.intro | exact congrArg (RO.ints .i64) ek | exact congrArg (RO.rows .i64) ek | (show (_ : Int) = (_ : Int); omega) | omega | exact rfl
theorem rseries_fn (t : List (List Int)) (h : Semi t) : QF 43 [.ro (.rows .i64 t)] (.ro (.rows .i64 (serV t))) := mkQ Try.func43 (by decide +kernel) rfl (Nat.le_of_ble_eq_true rfl) fun _ => rseries_k t h
end Go.Proofs.Ytdmfhcppdpcceaa
