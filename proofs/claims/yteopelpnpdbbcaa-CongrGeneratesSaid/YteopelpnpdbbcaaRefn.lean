/- Package partition: Refines; mult.Opposite: contracts. -/
import Derived.Test.YteopelpnpdbbcaaQuoLaw
import Derived.Test.YteopelpnpdbbcaaCgrLaw
import Derived.Test.YteopelpnpdbbcaaGroup
import Derived.Test.YteopelpnpdbbcaaPart
import Derived.Test.YteopelpnpdbbcaaZero
namespace Go.Proofs.Yteopelpnpdbbcaa
open Go Go.AM
set_option maxRecDepth 100000
/-! ### The opposite semigroup -/
def oppR (t : List (List Int)) (x : Nat) : List Int := (List.range t.length).map fun y => (t.getD y []).getD x 0
def oppL (t : List (List Int)) : List (List Int) := (List.range t.length).map fun x => oppR t x
theorem oppL_len (t : List (List Int)) : (oppL t).length = t.length := by simp [oppL]
theorem oppR_len (t : List (List Int)) (x : Nat) : (oppR t x).length = t.length := by simp [oppR]
theorem oppL_get {t : List (List Int)} {x : Nat} (h : x < t.length) : (oppL t).getD x [] = oppR t x := by simp [oppL, List.getD, h]
theorem oppR_get {t : List (List Int)} {x y : Nat} (h : y < t.length) : (oppR t x).getD y 0 = (t.getD y []).getD x 0 := by simp [oppR, List.getD, h]
theorem opp_en {t : List (List Int)} {x y : Nat} (hx : x < t.length) (hy : y < t.length) : en (oppL t) x y = en t y x := by
  unfold en; rw [oppL_get hx, oppR_get hy]
theorem opp_sh {t : List (List Int)} (h : Sh t) : Sh (oppL t) := by
  refine ⟨by rw [oppL_len]; exact h.pos, by rw [oppL_len]; exact h.most, fun r hr => ?_⟩
  obtain ⟨x, hx, rfl⟩ := mem_getD [] hr
  rw [oppL_len] at hx
  rw [oppL_get hx]
  refine ⟨by rw [oppR_len, oppL_len], fun a ha => ?_⟩
  obtain ⟨y, hy, rfl⟩ := mem_getD 0 ha
  rw [oppR_len] at hy
  rw [oppR_get hy, oppL_len]
  have := h.ent hy hx
  omega
theorem opp_semi {t : List (List Int)} (h : Semi t) : Semi (oppL t) := by
  have hS := h.toSh
  refine ⟨opp_sh hS, fun b hb a c ha hc => ?_⟩
  rw [oppL_len] at hb ha hc
  rw [opp_en ha hb, opp_en (hS.ent hb ha).2 hc, opp_en hb hc, opp_en ha (hS.ent hc hb).2, assoc3 h.assoc hc hb ha]
theorem opp_cgr {t : List (List Int)} (h : Sh t) {R : Nat → Nat → Prop} {a b : Nat} : Cgr t 1 R a b ↔ Cgr (oppL t) 2 R a b := by
  constructor
  · intro e
    refine e.least .refl (fun _ _ => .symm) (fun _ _ _ => .trans) (fun a b h => .rel h) (fun _ a b s hs ha hb h => ?_) fun h0 => absurd rfl h0
    have := Cgr.right (t := oppL t) (side := 2) (s := s) (by decide) (by rw [oppL_len]; exact hs) (by rw [oppL_len]; exact ha) (by rw [oppL_len]; exact hb) h
    rwa [opp_en ha hs, opp_en hb hs] at this
  · intro e
    refine e.least .refl (fun _ _ => .symm) (fun _ _ _ => .trans) (fun a b h => .rel h) (fun h0 => absurd rfl h0) fun _ a b s hs ha hb h => ?_
    rw [oppL_len] at hs ha hb
    rw [opp_en ha hs, opp_en hb hs]
    exact .left (by decide) hs ha hb h
theorem opp_genP {t : List (List Int)} (h : Sh t) (R : Nat → Nat → Prop) : genP t 1 R = genP (oppL t) 2 R := by
  rw [← genP_canon (t := t), ← genP_canon (t := oppL t)]
  refine ker_canon genP_len (by rw [genP_len, oppL_len]) fun a b ha hb => ?_
  rw [genP_iff ha hb, genP_iff (by rw [oppL_len]; exact ha) (by rw [oppL_len]; exact hb), opp_cgr h]
theorem mopp_k (t : List (List Int)) (h : Semi t) : fnK TY SP Try.f37 [.ro (.rows .i64 t)] (.new (.rows .i64 (oppL t))) := by
  have hmost := h.most
  have hS := h.toSh
  refine Or.inl (cq (mvalid_fn t) (And.intro rfl trivial) ?_)
  refine And.intro (fun h1 => ?_) (fun _ => ?_)
  · have h1 : (!decide (validV t = 0)) = true := h1
    rw [decide_eq_true (valid_zero.2 h)] at h1; cases h1
  refine And.intro (by omega) ?_
  refine And.intro (by omega) ?_
  refine Or.inl ?_
  refine Exists.intro [] <| lp2 (fun (x : Nat) (_ : List (List Int)) => [(14, .int .i64 x)]) (fun _ q => [(11, .vec 0 (.rows .i64 q) [])]) (fun x q => x ≤ t.length ∧ q.length = t.length ∧ ∀ x', x' < x → q.getD x' [] = oppR t x') (fun x _ => t.length - x) 0 (List.replicate t.length []) ⟨Nat.zero_le _, by simp, fun x h => absurd h (Nat.not_lt_zero _)⟩ (by repeat' first | refine And.intro ?_ ?_ | exact True.intro | (show (_ : Int) = (_ : Int); omega) | omega | exact rfl | (simp only [RO.len]; omega)) ?_
  rintro x q ⟨hx, hq, hqx⟩
  refine And.intro (fun h1 => ?_) (fun h1 => ?_)
  · have h1 : (x : Int) < ((List.replicate (t.length : Int).toNat ([] : List Int)).length : Int) := h1
    rw [List.length_replicate] at h1
    have hxl : x < t.length := by omega
    refine And.intro (by omega) ?_
    refine And.intro (by omega) ?_
    refine And.intro (show 0 ≤ (x : Int) ∧ (x : Int) < (q.length : Int) by omega) ?_
    refine And.intro (by omega) ?_
    refine Exists.intro [] <| lp2 (fun (y : Nat) (_ : List Int) => [(25, .int .i64 y)]) (fun _ r => [(11, .vec 0 (.rows .i64 q) [((x : Int), 21)]), (21, .vec 0 (.ints .i64 r) [])]) (fun y r => y ≤ t.length ∧ r.length = t.length ∧ ∀ y', y' < y → r.getD y' 0 = (t.getD y' []).getD x 0) (fun y _ => t.length - y) 0 (List.replicate t.length 0) ⟨Nat.zero_le _, by simp, fun y h => absurd h (Nat.not_lt_zero _)⟩ (by repeat' first | refine And.intro ?_ ?_ | exact True.intro | (show (_ : Int) = (_ : Int); omega) | omega | exact rfl | (simp only [RO.len]; omega)) ?_
    rintro y r ⟨hy, hr, hry⟩
    refine And.intro (fun h2 => ?_) (fun h2 => ?_)
    · have h2 : (y : Int) < (t.length : Int) := h2
      have hyl : y < t.length := by omega
      have r1 := hS.len hyl
      refine Or.inl ?_
      refine Exists.intro [false, false, false, false, false, false, false, false, false, false, false, false, false, true] (And.intro (by decide +kernel) ?_)
      refine And.intro (by omega) ?_
      refine And.intro (fun _ => ?_) (fun h3 => absurd rfl h3)
      refine And.intro (by omega) ?_
      refine And.intro (by simp only [Int.toNat_natCast]; omega) ?_
      refine And.intro (show 0 ≤ (y : Int) ∧ (y : Int) < (r.length : Int) by omega) ?_
      refine And.intro (by omega) ?_
      refine And.intro (by omega) ?_
      refine nx (y + 1, r.set y ((t.getD y []).getD x 0)) ⟨by omega, by rw [List.length_set]; exact hr, fun y' hy' => ?_⟩ (show t.length - (y + 1) < t.length - y by omega) (by repeat' first | refine And.intro ?_ ?_ | exact True.intro | (show (_ : Int) = (_ : Int); omega) | omega | exact rfl | (simp only [RO.len]; omega))
      by_cases e : y' = y
      · subst e; rw [getD_set_eq (by omega)]
      · rw [getD_set_ne (Ne.symm e)]; exact hry y' (by omega)
    · have h2 : (t.length : Int) ≤ (y : Int) := h2
      have hrd : r = oppR t x := ext_getD 0 (by rw [oppR_len]; exact hr) fun z hz => by rw [hry z (by omega), oppR_get (by omega)]
      refine And.intro (by omega) ?_
      refine nx (x + 1, q.set x r) ⟨by omega, by rw [List.length_set]; exact hq, fun x' hx' => ?_⟩ (show t.length - (x + 1) < t.length - x by omega) (by repeat' first | refine And.intro ?_ ?_ | exact True.intro | (show (_ : Int) = (_ : Int); omega) | omega | exact rfl | (simp only [RO.len]; omega))
      by_cases e : x' = x
      · subst e; rw [getD_set_eq (by omega)]; exact hrd
      · rw [getD_set_ne (Ne.symm e)]; exact hqx x' (by omega)
  · have h1 : ((List.replicate (t.length : Int).toNat ([] : List Int)).length : Int) ≤ (x : Int) := h1
    rw [List.length_replicate] at h1
    refine And.intro (And.intro (by omega) ?_) trivial
    refine congrArg (RO.rows .i64) (ext_getD [] (by rw [oppL_len]; exact hq) fun z hz => ?_)
    rw [hqx z (by omega), oppL_get (by omega)]
theorem mopp_fn (t : List (List Int)) (h : Semi t) : QF 37 [.ro (.rows .i64 t)] (.new (.rows .i64 (oppL t))) := mkQ Try.func37 (by decide +kernel) rfl (Nat.le_of_ble_eq_true rfl) fun _ => mopp_k t h
end Go.Proofs.Yteopelpnpdbbcaa
