import Derived.Test.YtpanlghofeebhaaSort
import Derived.Test.YtpanlghofeebhaaCgMin
import Derived.Test.YtpanlghofeebhaaIdealLaw
import Derived.Test.YtpanlghofeebhaaCgFor
import Derived.Test.YtpanlghofeebhaaClone
import Derived.Test.YtpanlghofeebhaaCgSyn
import Derived.Test.YtpanlghofeebhaaGroup
import Derived.Test.YtpanlghofeebhaaEqvLaw
import Derived.Test.YtpanlghofeebhaaMinsLaw
section
/- slices.SortFunc of a nil slice. -/
namespace Go.Proofs.Ytpanlghofeebhaa
open Go Go.AM
set_option maxRecDepth 100000
theorem blen0_fn : QF 100 [.int .u64 0] (.int .i64 0) := by
  refine ⟨⟨_, Try.func100, by decide +kernel, rfl⟩, fun M w vs hM hv => ?_⟩
  match vs, hv with
  | [v0], ⟨h0, _⟩ =>
  obtain ⟨rfl, _⟩ := h0
  have h := Any.bits_Len (SlLaysF0.n15.bits { sortL with }) (0 : Int) w (by omega) (by omega)
  refine Calls.mono h fun e w' ⟨he, hw⟩ => ?_
  subst hw
  have e1 : IntKind.i64.min = -9223372036854775808 := by decide
  have e2 : IntKind.i64.max = 9223372036854775807 := by decide
  exact ⟨_, he, Stp.refl _ _, M, fun _ _ _ => Iff.rfl, hM, rfl, by show IntKind.i64.min ≤ _ ∧ _ ≤ IntKind.i64.max; omega⟩
theorem insN_fn (g : FuncId) : QF 131 [.nils, .int .i64 0, .int .i64 0, .fn g []] (.tup []) := mkQ Try.func131 (by decide +kernel) rfl (Nat.le_of_ble_eq_true rfl) fun _ => by
  refine And.intro (by omega) ?_
  refine Exists.intro [] <| lp (X := Nat) (fun _ => [(8, .int .i64 1)]) (fun _ => []) (fun _ => True) (fun _ => 0) 0 trivial (by repeat' first | refine And.intro ?_ ?_ | exact True.intro | (show (_ : Int) = (_ : Int); omega) | omega | exact rfl | (simp only [RO.len]; omega)) ?_
  intro _ _
  refine And.intro (fun h => absurd (show (1 : Int) < 0 from h) (by decide)) (fun _ => ?_)
  repeat' first | refine And.intro ?_ ?_ | exact True.intro | exact rfl
theorem pdqN_fn (g : FuncId) : QF 99 [.nils, .int .i64 0, .int .i64 0, .int .i64 0, .fn g []] (.tup []) := mkQ Try.func99 (by decide +kernel) rfl (Nat.le_of_ble_eq_true rfl) fun _ => by
  refine Exists.intro [] <| lp (X := Nat) (fun _ => [(1, .int .i64 0), (2, .int .i64 0), (3, .int .i64 0)]) (fun _ => []) (fun _ => True) (fun _ => 0) 0 trivial (by repeat' first | refine And.intro ?_ ?_ | exact True.intro | (show (_ : Int) = (_ : Int); omega) | omega | exact rfl | (simp only [RO.len]; omega)) ?_
  intro _ _
  refine And.intro (by omega) ?_
  refine And.intro (fun _ => ?_) (fun h => absurd (show (12 : Int) < 0 - 0 from h) (by decide))
  refine Or.inl (cq (insN_fn g) (by repeat' first | refine And.intro ?_ ?_ | exact True.intro | (show (_ : Int) = (_ : Int); omega) | omega | exact rfl | (simp only [RO.len]; omega)) ?_)
  exact trivial
theorem srtN_fn (g : FuncId) : QF 56 [.nils, .fn g []] (.tup []) := mkQ Try.func56 (by decide +kernel) rfl (Nat.le_of_ble_eq_true rfl) fun _ => by
  refine And.intro (by omega) ?_
  refine Or.inl (cq blen0_fn (And.intro rfl trivial) ?_)
  refine Or.inl (cq (pdqN_fn g) (by repeat' first | refine And.intro ?_ ?_ | exact True.intro | (show (_ : Int) = (_ : Int); omega) | omega | exact rfl | (simp only [RO.len]; omega)) ?_)
  exact trivial
end Go.Proofs.Ytpanlghofeebhaa
end
section
/- congr.Minimal of one element, and of what is no semigroup. -/
namespace Go.Proofs.Ytpanlghofeebhaa
open Go Go.AM
set_option maxRecDepth 100000
set_option maxHeartbeats 2000000
theorem one_none {t : List (List Int)} (h2 : t.length < 2) {p : List Int} (h : MinC t p) : False := by
  obtain ⟨x, y, h1, h2, h3, _⟩ := h.jo
  omega
theorem one_mins {t : List (List Int)} (h2 : t.length < 2) : minsL t = [] := mins_of .nil fun _p => ⟨fun h => absurd h List.not_mem_nil, fun h => (one_none h2 h).elim⟩
theorem cmin1_fn (t : List (List Int)) (hs : Semi t) (h2 : t.length < 2) : EF 21 [.ro (.rows .i64 t)] (fun _ : Unit => .ro (.rows .i64 (minsL t))) (fun _ => True) := mkE Try.func21 (by decide +kernel) rfl (Nat.le_of_ble_eq_true rfl) fun _ => by
  have hS := hs.toSh
  refine Or.inl (cq (valid_fn t) (And.intro rfl trivial) ?_)
  refine And.intro (fun h1 => absurd (valid_zero.2 hs) h1) (fun _ => ?_)
  refine Or.inr (Or.inl (cm [] [(7, 507), (5, 505)] (cnew_fn t.length (by omega)) ?_))
  refine And.intro (by repeat' first | refine And.intro ?_ ?_ | exact True.intro | (show (_ : Int) = (_ : Int); omega) | omega | exact rfl | (simp only [RO.len]; omega)) ?_
  refine Or.inr (Or.inr (ce (atoms_fn t hs (by omega)) (And.intro rfl trivial) ?_))
  intro L hL
  have hL : AtomsOk t L := hL
  have hLe : L = [] := List.eq_nil_iff_forall_not_mem.2 fun l hl => one_none h2 (hL.mi l hl)
  subst hLe
  refine Exists.intro [] <| lp (X := Nat) (fun _ => [(18, .int .i64 0), (4, .nils)]) (fun _ => []) (fun _ => True) (fun _ => 0) 0 trivial (by repeat' first | refine And.intro ?_ ?_ | exact True.intro | (show (_ : Int) = (_ : Int); omega) | omega | exact rfl | (simp only [RO.len]; omega)) ?_
  intro _ _
  refine And.intro (fun h => absurd (show (0 : Int) < (([] : List (List (Int × Int))).length : Int) from h) (by decide)) (fun _ => ?_)
  refine Or.inl (cq (srtN_fn _) (by repeat' first | refine And.intro ?_ ?_ | exact True.intro | (show (_ : Int) = (_ : Int); omega) | omega | exact rfl | (simp only [RO.len]; omega)) ?_)
  refine Exists.intro () (And.intro trivial ?_)
  rw [one_mins h2]
  exact And.intro rfl trivial
theorem cmin_bad_fn (t : List (List Int)) (hs : ¬ Semi t) : QF 21 [.ro (.rows .i64 t)] .nils := mkQ Try.func21 (by decide +kernel) rfl (Nat.le_of_ble_eq_true rfl) fun _ => by
  have hv : validV t ≠ 0 := fun e => hs (valid_zero.1 e)
  refine Or.inl (cq (valid_fn t) (And.intro rfl trivial) ?_)
  refine And.intro (fun _ => ?_) (fun h => absurd h hv)
  repeat' first | refine And.intro ?_ ?_ | exact True.intro | exact rfl
theorem cminA_fn (t : List (List Int)) (hs : Semi t) (ht : t.length ≤ 60) : EF 21 [.ro (.rows .i64 t)] (fun _ : Unit => .ro (.rows .i64 (minsL t))) (fun _ => True) := by
  by_cases h2 : 2 ≤ t.length
  · have h := cminE_fn t hs h2 ht
    exact ⟨h.1, fun M w vs hM hv => Calls.mono (h.2 M w vs hM hv) fun e w' ⟨x, _, hx⟩ => ⟨x, trivial, hx⟩⟩
  · exact cmin1_fn t hs (by omega)
end Go.Proofs.Ytpanlghofeebhaa
end
section
/- References: FromPairs, the generated congruence: contracts. -/
namespace Go.Proofs.Ytpanlghofeebhaa
open Go Go.AM
set_option maxRecDepth 100000
theorem rpairs_k (n : Nat) (hn : n ≤ 4096) (l : List (Int × Int)) (hll : l.length ≤ 140737488355328) (hl : inW n l) : fnK TY SP Try.f142 [.int .i64 n, .ro (.pairs l)] (.new (.ints .i64 (eqP n (relP l)))) := by
  have n10 : ¬ (1 : Int) = ((0 : Nat) : Int) := by omega
  have n01 : ¬ (0 : Int) = ((0 + 1 : Nat) : Int) := by omega
  refine Or.inl (cq (rdis_fn n hn) (And.intro rfl trivial) ?_)
  refine Exists.intro [] <| lp2 (fun (i : Nat) (_ : List Int) => [(12, .int .i64 i)]) (fun _ p => [(9, .vec 0 (.ints .i64 p) [])]) (fun i p => i ≤ l.length ∧ KerOf n p (orR (fun _ _ => False) (l.take i))) (fun i _ => l.length - i) 0 (disI n) ⟨Nat.zero_le _, KerOf.dis fun a b h => h.elim id fun h => by simp [relP] at h⟩ (by repeat' first | refine And.intro ?_ ?_ | exact True.intro | (show (_ : Int) = (_ : Int); omega) | omega | exact rfl | (simp only [RO.len]; omega)) ?_
  rintro i p ⟨hi, hp⟩
  have hpl := hp.1
  refine And.intro (fun h1 => ?_) (fun h1 => ?_)
  · have h1 : (i : Int) < (l.length : Int) := h1
    have hil : i < l.length := by omega
    have hq := hl _ (getD_mem (d := ((0 : Int), (0 : Int))) (l := l) (i := i) hil)
    obtain ⟨a, ha⟩ : ∃ a : Nat, (a : Int) = (l.getD i (0, 0)).1 := ⟨_, Int.toNat_of_nonneg hq.1.1⟩
    obtain ⟨b, hb⟩ : ∃ b : Nat, (b : Int) = (l.getD i (0, 0)).2 := ⟨_, Int.toNat_of_nonneg hq.2.1⟩
    have hm := merge_fn p a b (by omega) (by omega) (by omega)
    rw [ha, hb] at hm
    have hn2 : KerOf n (mrgL p a b) (orR (fun _ _ => False) (l.take (i + 1))) := (hp.mrg (i := a) (j := b) (by omega) (by omega)).congr (fun x y h => .rel (by
        rw [take_get (d := (0, 0)) hil]
        rcases h with (h | h) | ⟨rfl, rfl⟩
        · exact .inl h
        · exact .inr (List.mem_append_left _ h)
        · refine .inr (List.mem_append_right _ (List.mem_singleton.2 ?_))
          rw [ha, hb])) fun x y h => .rel (by
        rw [take_get (d := (0, 0)) hil] at h
        rcases h with h | h
        · exact .inl (.inl h)
        · rcases List.mem_append.1 h with h | h
          · exact .inl (.inr h)
          · rw [List.mem_singleton] at h
            refine .inr ?_
            have h1 : (x : Int) = (l.getD i (0, 0)).1 := by rw [← h]
            have h2 : (y : Int) = (l.getD i (0, 0)).2 := by rw [← h]
            omega)
    refine And.intro (by omega) ?_
    refine And.intro (by omega) ?_
    refine And.intro (fun _ => ?_) (And.intro (fun h => absurd h n01) trivial)
    refine And.intro (by omega) ?_
    refine And.intro (fun h => absurd h n10) (And.intro (fun _ => ?_) trivial)
    refine Or.inr (Or.inl (cm [] [(1000, 9)] hm ?_))
    refine And.intro (by repeat' first | refine And.intro ?_ ?_ | exact True.intro | (show (_ : Int) = (_ : Int); omega) | omega | exact rfl | (simp only [RO.len]; omega)) ?_
    refine And.intro (by omega) ?_
    exact nx (i + 1, mrgL p a b) ⟨by omega, hn2⟩ (show l.length - (i + 1) < l.length - i by omega) (by repeat' first | refine And.intro ?_ ?_ | exact True.intro | (show (_ : Int) = (_ : Int); omega) | omega | exact rfl | (simp only [RO.len]; omega))
  · have h1 : (l.length : Int) ≤ (i : Int) := h1
    rw [List.take_of_length_le (by omega)] at hp
    have e : (if p.length ≤ 4096 then canon p else []) = eqP n (relP l) := by
      rw [if_pos (by omega)]
      exact eqP_of (hp.congr (fun a b h => h.elim (fun f => f.elim) .rel) fun a b h => .rel (.inr h))
    refine Or.inl (cq (rcanon_fn p) (And.intro rfl trivial) ?_)
    exact And.intro (And.intro (by omega) (congrArg (RO.ints .i64) e)) trivial
theorem rpairs_fn (n : Nat) (hn : n ≤ 4096) (l : List (Int × Int)) (hl : inW n l) : QF 142 [.int .i64 n, .ro (.pairs l)] (.new (.ints .i64 (eqP n (relP l)))) := mkQ Try.func142 (by decide +kernel) rfl (Nat.le_of_ble_eq_true rfl) fun hf => rpairs_k n hn l hf.2.1.1 hl
end Go.Proofs.Ytpanlghofeebhaa
end
section
/- The reference's generated congruence: contract. -/
namespace Go.Proofs.Ytpanlghofeebhaa
open Go Go.AM
set_option maxRecDepth 100000
def b1 (b : Bool) : Nat := match b with | true => 1 | false => 0
set_option maxHeartbeats 2000000 in
theorem rgnr_fn (t : List (List Int)) (l : List (Int × Int)) (side : Int) (hs : Sh t) (hl : inW t.length l) : QF 108 [.ro (.rows .i64 t), .ro (.pairs l), .int .i64 side] (.new (.ints .i64 (genP t side (relP l)))) := mkQ Try.func108 (by decide +kernel) rfl (Nat.le_of_ble_eq_true rfl) fun _ => by
  have hmost := hs.most
  refine Or.inl (cq (rpairs_fn t.length (by omega) l hl) (And.intro rfl (And.intro rfl trivial)) ?_)
  refine Exists.intro [] <| lp2 (fun (_ : List Int) (ch : Bool) => [(8, .bool (.v ch))]) (fun p _ => [(19, .vec 0 (.ints .i64 p) [])]) (fun p ch => RcB t side (relP l) p ∧ (ch = false → canon p = genP t side (relP l))) (fun p ch => classN p + b1 ch) (eqP t.length (relP l)) true ⟨RcB.ofPairs hl, fun h => by cases h⟩ (by repeat' first | refine And.intro ?_ ?_ | exact True.intro | (show (_ : Int) = (_ : Int); omega) | omega | exact rfl | (simp only [RO.len]; omega)) ?_
  rintro p0 ch0 ⟨hB, hdone⟩
  have hp0 := hB.len
  refine And.intro (fun h1 => ?_) (fun h1 => ?_)
  · have h1 : ch0 = true := h1
    refine Exists.intro [] <| lp3 (fun (x : Nat) (_ : List Int) (ch : Bool) => [(23, .int .i64 x), (8, .bool (.v ch))]) (fun _ p _ => [(19, .vec 0 (.ints .i64 p) [])]) (fun x p ch => x ≤ t.length ∧ RcI t side (relP l) p0 p ch x 0 0) (fun x _ _ => t.length - x) 0 p0 false ⟨Nat.zero_le _, RcI.start hB⟩ (by repeat' first | refine And.intro ?_ ?_ | exact True.intro | (show (_ : Int) = (_ : Int); omega) | omega | exact rfl | (simp only [RO.len]; omega)) ?_
    rintro x p1 ch1 ⟨hx, hI1⟩
    refine And.intro (fun h2 => ?_) (fun h2 => ?_)
    · have h2 : (x : Int) < (t.length : Int) := h2
      have hxl : x < t.length := by omega
      refine Exists.intro [] <| lp3 (fun (y : Nat) (_ : List Int) (ch : Bool) => [(10, .int .i64 y), (8, .bool (.v ch))]) (fun _ p _ => [(19, .vec 0 (.ints .i64 p) [])]) (fun y p ch => y ≤ x ∧ RcI t side (relP l) p0 p ch x y 0) (fun y _ _ => x - y) 0 p1 ch1 ⟨Nat.zero_le _, hI1⟩ (by repeat' first | refine And.intro ?_ ?_ | exact True.intro | (show (_ : Int) = (_ : Int); omega) | omega | exact rfl | (simp only [RO.len]; omega)) ?_
      rintro y p2 ch2 ⟨hy, hI2⟩
      refine And.intro (fun h3 => ?_) (fun h3 => ?_)
      · have h3 : (y : Int) < (x : Int) := h3
        have hyl : y < t.length := by omega
        refine Exists.intro [] <| lp3 (fun (s : Nat) (_ : List Int) (ch : Bool) => [(11, .int .i64 s), (8, .bool (.v ch))]) (fun _ p _ => [(19, .vec 0 (.ints .i64 p) [])]) (fun s p ch => s ≤ t.length ∧ RcI t side (relP l) p0 p ch x y s) (fun s _ _ => t.length - s) 0 p2 ch2 ⟨Nat.zero_le _, hI2⟩ (by repeat' first | refine And.intro ?_ ?_ | exact True.intro | (show (_ : Int) = (_ : Int); omega) | omega | exact rfl | (simp only [RO.len]; omega)) ?_
        rintro s p ch ⟨hsn, hI⟩
        have hpl := hI.b.len
        refine Or.inl ?_
        refine Exists.intro [false, false, false, false, false, false, false, false, false, false, false, false, false, false, false] (And.intro (by decide +kernel) ?_)
        refine And.intro (fun h4 => ?_) (fun h4 => ?_)
        · have h4 : (s : Int) < (t.length : Int) := h4
          have hsl : s < t.length := by omega
          refine And.intro (show 0 ≤ (x : Int) ∧ (x : Int) < (p.length : Int) by omega) ?_
          refine And.intro (show 0 ≤ (y : Int) ∧ (y : Int) < (p.length : Int) by omega) ?_
          refine And.intro (fun h5 => ?_) (fun h5 => ?_)
          · have h5 : p.getD x 0 = p.getD y 0 := h5
            have hxy := hI.b.up x y hxl hyl h5
            have e1 := hs.ent hsl hxl
            have e2 := hs.ent hsl hyl
            have e3 := hs.ent hxl hsl
            have e4 := hs.ent hyl hsl
            have r1 := hs.len hsl
            have r2 := hs.len hxl
            have r3 := hs.len hyl
            refine Or.inl ?_
            refine Exists.intro [false, false, false, false, false, false, false, false, false, false, false, false, false, false, false, false] (And.intro (by decide +kernel) ?_)
            refine And.intro (by omega) ?_
            refine And.intro (show 0 ≤ (x : Int) ∧ (x : Int) < ((t.getD s []).length : Int) by omega) ?_
            refine And.intro (by omega) ?_
            refine And.intro (show 0 ≤ (y : Int) ∧ (y : Int) < ((t.getD s []).length : Int) by omega) ?_
            refine Or.inl ?_
            refine Exists.intro [false, false, false, false, false, false, false, false, false, false, false, false, false] (And.intro (by decide +kernel) ?_)
            refine And.intro (fun h6 => ?_) (fun h6 => ?_)
            · have h6 : side ≠ 2 := h6
              refine And.intro (show 0 ≤ (t.getD s []).getD x 0 ∧ (t.getD s []).getD x 0 < (p.length : Int) by omega) ?_
              refine And.intro (show 0 ≤ (t.getD s []).getD y 0 ∧ (t.getD s []).getD y 0 < (p.length : Int) by omega) ?_
              refine And.intro (fun h7 => ?_) (fun h7 => ?_)
              · have h7 : p.getD ((t.getD s []).getD x 0).toNat 0 ≠ p.getD ((t.getD s []).getD y 0).toNat 0 := h7
                rw [e1.1, e2.1, Int.toNat_natCast, Int.toNat_natCast] at h7
                have hm := merge_fn p (en t s x) (en t s y) (by omega) (by omega) (by omega)
                rw [← e1.1, ← e2.1] at hm
                have hI1 := hI.mrg e1.2 e2.2 (.left h6 hsl hxl hyl hxy) h7 x y s
                refine Or.inr (Or.inl (cm [] [(1000, 19)] hm ?_))
                refine And.intro (by repeat' first | refine And.intro ?_ ?_ | exact True.intro | (show (_ : Int) = (_ : Int); omega) | omega | exact rfl | (simp only [RO.len]; omega)) ?_
                have hpl1 : (mrgL p (en t s x) (en t s y)).length = t.length := by rw [mrgL_len]; exact hpl
                refine Or.inl ?_
                refine Exists.intro [false, false, false, false, false, false, false, false, false, false, false, false, false, false, false, false] (And.intro (by decide +kernel) ?_)
                refine And.intro (by omega) ?_
                refine And.intro (show 0 ≤ (s : Int) ∧ (s : Int) < ((t.getD x []).length : Int) by omega) ?_
                refine And.intro (by omega) ?_
                refine And.intro (show 0 ≤ (s : Int) ∧ (s : Int) < ((t.getD y []).length : Int) by omega) ?_
                refine Or.inl ?_
                refine Exists.intro [false, false, false, false, false, false, false, false, false, false, false, false, false] (And.intro (by decide +kernel) ?_)
                refine And.intro (fun h8 => ?_) (fun h8 => ?_)
                · have h8 : side ≠ 1 := h8
                  refine And.intro (show 0 ≤ (t.getD x []).getD s 0 ∧ (t.getD x []).getD s 0 < ((mrgL p (en t s x) (en t s y)).length : Int) by omega) ?_
                  refine And.intro (show 0 ≤ (t.getD y []).getD s 0 ∧ (t.getD y []).getD s 0 < ((mrgL p (en t s x) (en t s y)).length : Int) by omega) ?_
                  refine And.intro (fun h9 => ?_) (fun h9 => ?_)
                  · have h9 : (mrgL p (en t s x) (en t s y)).getD ((t.getD x []).getD s 0).toNat 0 ≠ (mrgL p (en t s x) (en t s y)).getD ((t.getD y []).getD s 0).toNat 0 := h9
                    rw [e3.1, e4.1, Int.toNat_natCast, Int.toNat_natCast] at h9
                    have hm := merge_fn (mrgL p (en t s x) (en t s y)) (en t x s) (en t y s) (by omega) (by omega) (by omega)
                    rw [← e3.1, ← e4.1] at hm
                    refine Or.inr (Or.inl (cm [] [(1000, 19)] hm ?_))
                    refine And.intro (by repeat' first | refine And.intro ?_ ?_ | exact True.intro | (show (_ : Int) = (_ : Int); omega) | omega | exact rfl | (simp only [RO.len]; omega)) ?_
                    refine And.intro (by omega) ?_
                    exact nx (s + 1, mrgL (mrgL p (en t s x) (en t s y)) (en t x s) (en t y s), true) ⟨by omega, hI1.mrg e3.2 e4.2 (.right h8 hsl hxl hyl hxy) h9 x y (s + 1)⟩ (show t.length - (s + 1) < t.length - s by omega) (by repeat' first | refine And.intro ?_ ?_ | exact True.intro | (show (_ : Int) = (_ : Int); omega) | omega | exact rfl | (simp only [RO.len]; omega))
                  · have h9 : (mrgL p (en t s x) (en t s y)).getD ((t.getD x []).getD s 0).toNat 0 = (mrgL p (en t s x) (en t s y)).getD ((t.getD y []).getD s 0).toNat 0 := h9
                    rw [e3.1, e4.1, Int.toNat_natCast, Int.toNat_natCast] at h9
                    refine And.intro (by omega) ?_
                    exact nx (s + 1, mrgL p (en t s x) (en t s y), true) ⟨by omega, hI1.chd x y (s + 1)⟩ (show t.length - (s + 1) < t.length - s by omega) (by repeat' first | refine And.intro ?_ ?_ | exact True.intro | (show (_ : Int) = (_ : Int); omega) | omega | exact rfl | (simp only [RO.len]; omega))
                · have h8 : side = 1 := h8
                  refine And.intro (by omega) ?_
                  exact nx (s + 1, mrgL p (en t s x) (en t s y), true) ⟨by omega, hI1.chd x y (s + 1)⟩ (show t.length - (s + 1) < t.length - s by omega) (by repeat' first | refine And.intro ?_ ?_ | exact True.intro | (show (_ : Int) = (_ : Int); omega) | omega | exact rfl | (simp only [RO.len]; omega))
              · have h7 : p.getD ((t.getD s []).getD x 0).toNat 0 = p.getD ((t.getD s []).getD y 0).toNat 0 := h7
                rw [e1.1, e2.1, Int.toNat_natCast, Int.toNat_natCast] at h7
                have hLok : side ≠ 2 → p.getD (en t s x) 0 = p.getD (en t s y) 0 := fun _ => h7
                have hpl1 : (p).length = t.length := by exact hpl
                refine Or.inl ?_
                refine Exists.intro [false, false, false, false, false, false, false, false, false, false, false, false, false, false, false, false] (And.intro (by decide +kernel) ?_)
                refine And.intro (by omega) ?_
                refine And.intro (show 0 ≤ (s : Int) ∧ (s : Int) < ((t.getD x []).length : Int) by omega) ?_
                refine And.intro (by omega) ?_
                refine And.intro (show 0 ≤ (s : Int) ∧ (s : Int) < ((t.getD y []).length : Int) by omega) ?_
                refine Or.inl ?_
                refine Exists.intro [false, false, false, false, false, false, false, false, false, false, false, false, false] (And.intro (by decide +kernel) ?_)
                refine And.intro (fun h8 => ?_) (fun h8 => ?_)
                · have h8 : side ≠ 1 := h8
                  refine And.intro (show 0 ≤ (t.getD x []).getD s 0 ∧ (t.getD x []).getD s 0 < ((p).length : Int) by omega) ?_
                  refine And.intro (show 0 ≤ (t.getD y []).getD s 0 ∧ (t.getD y []).getD s 0 < ((p).length : Int) by omega) ?_
                  refine And.intro (fun h9 => ?_) (fun h9 => ?_)
                  · have h9 : (p).getD ((t.getD x []).getD s 0).toNat 0 ≠ (p).getD ((t.getD y []).getD s 0).toNat 0 := h9
                    rw [e3.1, e4.1, Int.toNat_natCast, Int.toNat_natCast] at h9
                    have hm := merge_fn (p) (en t x s) (en t y s) (by omega) (by omega) (by omega)
                    rw [← e3.1, ← e4.1] at hm
                    refine Or.inr (Or.inl (cm [] [(1000, 19)] hm ?_))
                    refine And.intro (by repeat' first | refine And.intro ?_ ?_ | exact True.intro | (show (_ : Int) = (_ : Int); omega) | omega | exact rfl | (simp only [RO.len]; omega)) ?_
                    refine And.intro (by omega) ?_
                    exact nx (s + 1, mrgL (p) (en t x s) (en t y s), true) ⟨by omega, hI.mrg e3.2 e4.2 (.right h8 hsl hxl hyl hxy) h9 x y (s + 1)⟩ (show t.length - (s + 1) < t.length - s by omega) (by repeat' first | refine And.intro ?_ ?_ | exact True.intro | (show (_ : Int) = (_ : Int); omega) | omega | exact rfl | (simp only [RO.len]; omega))
                  · have h9 : (p).getD ((t.getD x []).getD s 0).toNat 0 = (p).getD ((t.getD y []).getD s 0).toNat 0 := h9
                    rw [e3.1, e4.1, Int.toNat_natCast, Int.toNat_natCast] at h9
                    refine And.intro (by omega) ?_
                    exact nx (s + 1, p, ch) ⟨by omega, hI.okS ⟨hLok, fun _ => h9⟩⟩ (show t.length - (s + 1) < t.length - s by omega) (by repeat' first | refine And.intro ?_ ?_ | exact True.intro | (show (_ : Int) = (_ : Int); omega) | omega | exact rfl | (simp only [RO.len]; omega))
                · have h8 : side = 1 := h8
                  refine And.intro (by omega) ?_
                  exact nx (s + 1, p, ch) ⟨by omega, hI.okS ⟨hLok, fun h => absurd h8 h⟩⟩ (show t.length - (s + 1) < t.length - s by omega) (by repeat' first | refine And.intro ?_ ?_ | exact True.intro | (show (_ : Int) = (_ : Int); omega) | omega | exact rfl | (simp only [RO.len]; omega))
            · have h6 : side = 2 := h6
              have hLok : side ≠ 2 → p.getD (en t s x) 0 = p.getD (en t s y) 0 := fun h => absurd h6 h
              have hpl1 : (p).length = t.length := by exact hpl
              refine Or.inl ?_
              refine Exists.intro [false, false, false, false, false, false, false, false, false, false, false, false, false, false, false, false] (And.intro (by decide +kernel) ?_)
              refine And.intro (by omega) ?_
              refine And.intro (show 0 ≤ (s : Int) ∧ (s : Int) < ((t.getD x []).length : Int) by omega) ?_
              refine And.intro (by omega) ?_
              refine And.intro (show 0 ≤ (s : Int) ∧ (s : Int) < ((t.getD y []).length : Int) by omega) ?_
              refine Or.inl ?_
              refine Exists.intro [false, false, false, false, false, false, false, false, false, false, false, false, false] (And.intro (by decide +kernel) ?_)
              refine And.intro (fun h8 => ?_) (fun h8 => ?_)
              · have h8 : side ≠ 1 := h8
                refine And.intro (show 0 ≤ (t.getD x []).getD s 0 ∧ (t.getD x []).getD s 0 < ((p).length : Int) by omega) ?_
                refine And.intro (show 0 ≤ (t.getD y []).getD s 0 ∧ (t.getD y []).getD s 0 < ((p).length : Int) by omega) ?_
                refine And.intro (fun h9 => ?_) (fun h9 => ?_)
                · have h9 : (p).getD ((t.getD x []).getD s 0).toNat 0 ≠ (p).getD ((t.getD y []).getD s 0).toNat 0 := h9
                  rw [e3.1, e4.1, Int.toNat_natCast, Int.toNat_natCast] at h9
                  have hm := merge_fn (p) (en t x s) (en t y s) (by omega) (by omega) (by omega)
                  rw [← e3.1, ← e4.1] at hm
                  refine Or.inr (Or.inl (cm [] [(1000, 19)] hm ?_))
                  refine And.intro (by repeat' first | refine And.intro ?_ ?_ | exact True.intro | (show (_ : Int) = (_ : Int); omega) | omega | exact rfl | (simp only [RO.len]; omega)) ?_
                  refine And.intro (by omega) ?_
                  exact nx (s + 1, mrgL (p) (en t x s) (en t y s), true) ⟨by omega, hI.mrg e3.2 e4.2 (.right h8 hsl hxl hyl hxy) h9 x y (s + 1)⟩ (show t.length - (s + 1) < t.length - s by omega) (by repeat' first | refine And.intro ?_ ?_ | exact True.intro | (show (_ : Int) = (_ : Int); omega) | omega | exact rfl | (simp only [RO.len]; omega))
                · have h9 : (p).getD ((t.getD x []).getD s 0).toNat 0 = (p).getD ((t.getD y []).getD s 0).toNat 0 := h9
                  rw [e3.1, e4.1, Int.toNat_natCast, Int.toNat_natCast] at h9
                  refine And.intro (by omega) ?_
                  exact nx (s + 1, p, ch) ⟨by omega, hI.okS ⟨hLok, fun _ => h9⟩⟩ (show t.length - (s + 1) < t.length - s by omega) (by repeat' first | refine And.intro ?_ ?_ | exact True.intro | (show (_ : Int) = (_ : Int); omega) | omega | exact rfl | (simp only [RO.len]; omega))
              · have h8 : side = 1 := h8
                refine And.intro (by omega) ?_
                exact nx (s + 1, p, ch) ⟨by omega, hI.okS ⟨hLok, fun h => absurd h8 h⟩⟩ (show t.length - (s + 1) < t.length - s by omega) (by repeat' first | refine And.intro ?_ ?_ | exact True.intro | (show (_ : Int) = (_ : Int); omega) | omega | exact rfl | (simp only [RO.len]; omega))
          · have h5 : p.getD x 0 ≠ p.getD y 0 := h5
            refine And.intro (by omega) ?_
            exact nx (y + 1, p, ch) ⟨by omega, hI.endS (.inr h5)⟩ (show x - (y + 1) < x - y by omega) (by repeat' first | refine And.intro ?_ ?_ | exact True.intro | (show (_ : Int) = (_ : Int); omega) | omega | exact rfl | (simp only [RO.len]; omega))
        · have h4 : (t.length : Int) ≤ (s : Int) := h4
          refine And.intro (by omega) ?_
          exact nx (y + 1, p, ch) ⟨by omega, hI.endS (.inl (by omega))⟩ (show x - (y + 1) < x - y by omega) (by repeat' first | refine And.intro ?_ ?_ | exact True.intro | (show (_ : Int) = (_ : Int); omega) | omega | exact rfl | (simp only [RO.len]; omega))
      · have h3 : (x : Int) ≤ (y : Int) := h3
        refine And.intro (by omega) ?_
        exact nx (x + 1, p2, ch2) ⟨by omega, hI2.endY (by omega)⟩ (show t.length - (x + 1) < t.length - x by omega) (by repeat' first | refine And.intro ?_ ?_ | exact True.intro | (show (_ : Int) = (_ : Int); omega) | omega | exact rfl | (simp only [RO.len]; omega))
    · have h2 : (t.length : Int) ≤ (x : Int) := h2
      refine nx (p1, ch1) ⟨hI1.b, fun h => by subst h; exact hI1.done (by omega)⟩ ?_ (by repeat' first | refine And.intro ?_ ?_ | exact True.intro | (show (_ : Int) = (_ : Int); omega) | omega | exact rfl | (simp only [RO.len]; omega))
      show classN p1 + b1 ch1 < classN p0 + b1 ch0
      rw [h1]
      have hle := hI1.le
      cases hc : ch1 with
      | true => have := hI1.cd hc; show classN p1 + 1 < classN p0 + 1; omega
      | false => show classN p1 + 0 < classN p0 + 1; omega
  · have h1 : ch0 = false := h1
    have e : (if p0.length ≤ 4096 then canon p0 else []) = genP t side (relP l) := by rw [if_pos (by omega)]; exact hdone h1
    refine Or.inl (cq (rcanon_fn p0) (And.intro rfl trivial) ?_)
    exact And.intro (And.intro (by omega) (congrArg (RO.ints .i64) e)) trivial
end Go.Proofs.Ytpanlghofeebhaa
end
section
/- Package partition: Refines; mult.Opposite: contracts. -/
namespace Go.Proofs.Ytpanlghofeebhaa
open Go Go.AM
set_option maxRecDepth 100000
def Rf (p q : List Int) : Prop := ∀ i j, i < p.length → j < p.length → p.getD i 0 = p.getD j 0 → q.getD i 0 = q.getD j 0
noncomputable def rfB (p q : List Int) : Bool := @decide (Rf p q) (Classical.propDecidable _)
theorem rfB_true {p q : List Int} : rfB p q = true ↔ Rf p q := by unfold rfB; exact @decide_eq_true_iff _ (Classical.propDecidable _)
theorem rfB_false {p q : List Int} : rfB p q = false ↔ ¬ Rf p q := by unfold rfB; exact @decide_eq_false_iff_not _ (Classical.propDecidable _)
/-! ### The opposite semigroup -/
end Go.Proofs.Ytpanlghofeebhaa
end
section
/- The reference's minimal congruences: contracts. -/
namespace Go.Proofs.Ytpanlghofeebhaa
open Go Go.AM
set_option maxRecDepth 100000
theorem insRow_fn (l : List (List Int)) (x : List Int) (hl : l.length ≤ 100000) (hs0 : Srt cmpL l) : QF 71 [.ro (.rows .i64 l), .ro (.ints .i64 x)] (.ro (.rows .i64 (insC cmpL l x))) := mkQ Try.func71 (by decide +kernel) rfl (Nat.le_of_ble_eq_true rfl) fun _ => by
  refine Exists.intro [] <| lp (X := Nat) (fun i => [(5, .int .i64 i)]) (fun _ => []) (fun i => i ≤ l.length ∧ ∀ j, i ≤ j → j < l.length → cmpL x (l.getD j []) < 0) (fun i => i) l.length (by simp; omega) (by repeat' first | refine And.intro ?_ ?_ | exact True.intro | (show (_ : Int) = (_ : Int); omega) | omega | exact rfl | (simp only [RO.len]; omega)) ?_
  rintro i ⟨hi, hs⟩
  have e0 : ((i : Int) - 1).toNat = i - 1 := by omega
  refine And.intro (fun h1 => ?_) (fun h1 => ?_)
  · refine And.intro (by omega) ?_
    refine And.intro (by omega) ?_
    refine Or.inl (cq (rLess_fn x (l.getD ((i : Int) - 1).toNat [])) (And.intro rfl (And.intro rfl trivial)) ?_)
    refine And.intro (fun h2 => ?_) (fun h2 => ?_)
    · have h2 : cmpL x (l.getD ((i : Int) - 1).toNat []) < 0 := of_decide_eq_true h2
      rw [e0] at h2
      refine And.intro (by omega) ?_
      refine nx (i - 1) ⟨by omega, fun j hj hjl => ?_⟩ (show i - 1 < i by omega) (by repeat' first | refine And.intro ?_ ?_ | exact True.intro | (show (_ : Int) = (_ : Int); omega) | omega | exact rfl | (simp only [RO.len]; omega))
      by_cases e : j = i - 1
      · rw [e]; exact h2
      · exact hs j (by omega) hjl
    · have h2 : ¬ cmpL x (l.getD ((i : Int) - 1).toNat []) < 0 := of_decide_eq_false h2
      rw [e0] at h2
      refine And.intro (fun h3 => ?_) (fun h3 => by omega)
      refine And.intro (by omega) ?_
      refine And.intro (by omega) ?_
      refine Or.inl (cq (same_fn (l.getD ((i : Int) - 1).toNat []) x) (And.intro rfl (And.intro rfl trivial)) ?_)
      refine And.intro (fun h4 => ?_) (fun h4 => ?_)
      · have h4 : l.getD ((i : Int) - 1).toNat [] = x := of_decide_eq_true h4
        rw [e0] at h4
        refine And.intro ?_ trivial
        refine congrArg (RO.rows .i64) (insC_in ?_).symm
        rw [← h4]
        exact getD_mem (by omega)
      · have h4 : ¬ l.getD ((i : Int) - 1).toNat [] = x := of_decide_eq_false h4
        rw [e0] at h4
        have hlt : cmpL (l.getD (i - 1) []) x < 0 := by
          have := cmpL_tot.swap (l.getD (i - 1) []) x
          have := mt (cmpL_tot.eq (l.getD (i - 1) []) x) h4
          omega
        have fin := insC_at cmpL_tot (d := []) hs0 hi hs fun _ => hlt
        refine Or.inr (Exists.intro insSch (And.intro (by decide +kernel) ?_))
        refine And.intro (by omega) ?_
        refine And.intro (by omega) ?_
        repeat' first | exact trivial | refine And.intro ?_ ?_
        all_goals first | (simp; omega) | exact congrArg (RO.rows .i64) (by rw [← fin]; simp)
  · refine And.intro (fun h3 => by omega) (fun h3 => ?_)
    have fin := insC_at cmpL_tot (d := []) hs0 hi hs fun h => by omega
    refine Or.inr (Exists.intro insSch (And.intro (by decide +kernel) ?_))
    refine And.intro (by omega) ?_
    refine And.intro (by omega) ?_
    repeat' first | exact trivial | refine And.intro ?_ ?_
    all_goals first | (simp; omega) | exact congrArg (RO.rows .i64) (by rw [← fin]; simp)
set_option maxHeartbeats 1000000 in
theorem rrefn_fn (p q : List Int) (hl : p.length = q.length) : QF 73 [.ro (.ints .i64 p), .ro (.ints .i64 q)] (.bool (.v (rfB p q))) := mkQ Try.func73 (by decide +kernel) rfl (Nat.le_of_ble_eq_true rfl) fun hf => by
  have hpl : p.length ≤ 140737488355328 := hf.1.1
  refine Exists.intro [] <| lp (X := Nat) (fun i => [(9, .int .i64 i)]) (fun _ => []) (fun i => i ≤ p.length ∧ ∀ x, x < i → ∀ y, y < p.length → p.getD x 0 = p.getD y 0 → q.getD x 0 = q.getD y 0) (fun i => p.length - i) 0 ⟨Nat.zero_le _, fun j hj => absurd hj (Nat.not_lt_zero _)⟩ (by repeat' first | refine And.intro ?_ ?_ | exact True.intro | (show (_ : Int) = (_ : Int); omega) | omega | exact rfl | (simp only [RO.len]; omega)) ?_
  rintro i ⟨hi, hx⟩
  refine And.intro (fun h1 => ?_) (fun h1 => ?_)
  · have h1 : (i : Int) < (p.length : Int) := h1
    refine Exists.intro [] <| lp (X := Nat) (fun j => [(14, .int .i64 j)]) (fun _ => []) (fun j => j ≤ p.length ∧ ∀ y, y < j → p.getD i 0 = p.getD y 0 → q.getD i 0 = q.getD y 0) (fun j => p.length - j) 0 ⟨Nat.zero_le _, fun j hj => absurd hj (Nat.not_lt_zero _)⟩ (by repeat' first | refine And.intro ?_ ?_ | exact True.intro | (show (_ : Int) = (_ : Int); omega) | omega | exact rfl | (simp only [RO.len]; omega)) ?_
    rintro j ⟨hj, hy⟩
    refine And.intro (fun h2 => ?_) (fun h2 => ?_)
    · have h2 : (j : Int) < (p.length : Int) := h2
      refine Or.inl ?_
      refine Exists.intro (List.replicate 20 false) (And.intro (by decide +kernel) ?_)
      refine And.intro (by omega) ?_
      refine And.intro (by omega) ?_
      refine And.intro (fun h3 => ?_) (fun h3 => ?_)
      · have h3 : p.getD i 0 = p.getD j 0 := h3
        refine And.intro (show 0 ≤ (i : Int) ∧ (i : Int) < (q.length : Int) by omega) ?_
        refine And.intro (show 0 ≤ (j : Int) ∧ (j : Int) < (q.length : Int) by omega) ?_
        refine And.intro (fun h4 => ?_) (fun h4 => ?_)
        · have h4 : ¬ q.getD i 0 = q.getD j 0 := h4
          refine And.intro ?_ trivial
          exact (rfB_false.2 fun h => h4 (h i j (by omega) (by omega) h3)).symm
        · have h4 : q.getD i 0 = q.getD j 0 := h4
          refine And.intro (by omega) ?_
          refine nx (j + 1) ⟨by omega, fun y hyj e => ?_⟩ (show p.length - (j + 1) < p.length - j by omega) (by repeat' first | refine And.intro ?_ ?_ | exact True.intro | (show (_ : Int) = (_ : Int); omega) | omega | exact rfl | (simp only [RO.len]; omega))
          by_cases ey : y = j
          · subst ey; exact h4
          · exact hy y (by omega) e
      · have h3 : ¬ p.getD i 0 = p.getD j 0 := h3
        refine And.intro (by omega) ?_
        refine nx (j + 1) ⟨by omega, fun y hyj e => ?_⟩ (show p.length - (j + 1) < p.length - j by omega) (by repeat' first | refine And.intro ?_ ?_ | exact True.intro | (show (_ : Int) = (_ : Int); omega) | omega | exact rfl | (simp only [RO.len]; omega))
        by_cases ey : y = j
        · subst ey; exact absurd e h3
        · exact hy y (by omega) e
    · have h2 : (p.length : Int) ≤ (j : Int) := h2
      refine And.intro (by omega) ?_
      refine nx (i + 1) ⟨by omega, fun x hxi y hyp e => ?_⟩ (show p.length - (i + 1) < p.length - i by omega) (by repeat' first | refine And.intro ?_ ?_ | exact True.intro | (show (_ : Int) = (_ : Int); omega) | omega | exact rfl | (simp only [RO.len]; omega))
      by_cases ex : x = i
      · subst ex; exact hy y (by omega) e
      · exact hx x (by omega) y hyp e
  · have h1 : (p.length : Int) ≤ (i : Int) := h1
    refine And.intro ?_ trivial
    exact (rfB_true.2 fun x y hxp hyp e => hx x (by omega) y hyp e).symm
end Go.Proofs.Ytpanlghofeebhaa
end
