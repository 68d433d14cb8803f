import Derived.Test.YtkbhgnbnnbengaaSdRef
import Derived.Test.YtkbhgnbnnbengaaCgFor
import Derived.Test.YtkbhgnbnnbengaaJoin
import Derived.Test.YtkbhgnbnnbengaaCgQuo
import Derived.Test.YtkbhgnbnnbengaaReesLaw
import Derived.Test.YtkbhgnbnnbengaaRows
import Derived.Deep.Matrix
import Derived.Deep.Fields
import Derived.SizedLaws
import Derived.Carry
import Derived.WideKeyArgs
import Derived.ProofKit
import Derived.OpenShut
section
/- Package subdirect: Embed; the reference's: contracts. -/
namespace Go.Proofs.Ytkbhgnbnnbengaa
open Go Go.AM
set_option maxRecDepth 100000
def embR (l : List (List Int)) (x : Nat) : List Int := l.map fun p => p.getD x 0
def embL (n : Nat) (l : List (List Int)) : List (List Int) := (List.range n).map fun x => embR l x
theorem embR_len (l : List (List Int)) (x : Nat) : (embR l x).length = l.length := by simp [embR]
theorem embL_len (n : Nat) (l : List (List Int)) : (embL n l).length = n := by simp [embL]
theorem embL_get {n : Nat} {l : List (List Int)} {x : Nat} (h : x < n) : (embL n l).getD x [] = embR l x := by simp [embL, List.getD, h]
theorem embR_get {l : List (List Int)} {x i : Nat} (h : i < l.length) : (embR l x).getD i 0 = (l.getD i []).getD x 0 := by simp [embR, List.getD, h]
set_option maxHeartbeats 1000000 in
theorem semb_fn (t l : List (List Int)) (hs : Semi t) (hc : ∀ p ∈ l, IsCg t p 0) (hl : l.length ≤ 400) : QF 26 [.ro (.rows .i64 t), .ro (.rows .i64 l)] (.new (.rows .i64 (embL t.length l))) := mkQ Try.func26 (by decide +kernel) rfl (Nat.le_of_ble_eq_true rfl) fun _ => by
  have hmost := hs.most
  refine Or.inl (cq (valid_fn t) (And.intro rfl trivial) ?_)
  refine And.intro (fun h => absurd (valid_zero.2 hs) h) (fun _ => ?_)
  refine Exists.intro [] <| lp (X := Nat) (fun i => [(16, .int .i64 i)]) (fun _ => []) (fun i => i ≤ l.length) (fun i => l.length - i) 0 (Nat.zero_le _) (by repeat' first | refine And.intro ?_ ?_ | exact True.intro | (show (_ : Int) = (_ : Int); omega) | omega | exact rfl | (simp only [RO.len]; omega)) ?_
  rintro i hi
  refine And.intro (fun h1 => ?_) (fun _ => ?_)
  · have h1 : (i : Int) < (l.length : Int) := h1
    refine And.intro (by omega) ?_
    refine Or.inl (cq (sdcg_fn t (l.getD i []) hs) (And.intro rfl (And.intro rfl trivial)) ?_)
    refine And.intro (fun h2 => ?_) (fun _ => ?_)
    · have h2 : (!cgB t (l.getD i []) 0) = true := h2
      rw [cgB_true.2 (hc _ (getD_mem (d := []) (by omega)))] at h2; cases h2
    refine And.intro (by omega) ?_
    exact nx (i + 1) (show i + 1 ≤ l.length by omega) (show l.length - (i + 1) < l.length - i by omega) (by repeat' first | refine And.intro ?_ ?_ | exact True.intro | (show (_ : Int) = (_ : Int); omega) | omega | exact rfl | (simp only [RO.len]; omega))
  refine And.intro (by omega) ?_
  refine And.intro (by omega) ?_
  refine Or.inl ?_
  refine Exists.intro [] <| lp2 (fun (x : Nat) (_ : List (List Int)) => [(30, .int .i64 x)]) (fun _ q => [(27, .vec 0 (.rows .i64 q) [])]) (fun x q => x ≤ t.length ∧ q.length = t.length ∧ ∀ x', x' < x → q.getD x' [] = embR l x') (fun x _ => t.length - x) 0 (List.replicate t.length []) ⟨Nat.zero_le _, by simp, fun x h => absurd h (Nat.not_lt_zero _)⟩ (by repeat' first | refine And.intro ?_ ?_ | exact True.intro | (show (_ : Int) = (_ : Int); omega) | omega | exact rfl | (simp only [RO.len]; omega)) ?_
  rintro x q ⟨hx, hq, hqx⟩
  refine And.intro (fun h1 => ?_) (fun h1 => ?_)
  · have h1 : (x : Int) < ((List.replicate (t.length : Int).toNat ([] : List Int)).length : Int) := h1
    rw [List.length_replicate] at h1
    have hxl : x < t.length := by omega
    refine And.intro (by omega) ?_
    refine And.intro (by omega) ?_
    refine And.intro (show 0 ≤ (x : Int) ∧ (x : Int) < (q.length : Int) by omega) ?_
    refine And.intro (by omega) ?_
    refine Exists.intro [] <| lp2 (fun (y : Nat) (_ : List Int) => [(41, .int .i64 y)]) (fun _ r => [(27, .vec 0 (.rows .i64 q) [((x : Int), 37)]), (37, .vec 0 (.ints .i64 r) [])]) (fun y r => y ≤ l.length ∧ r.length = l.length ∧ ∀ y', y' < y → r.getD y' 0 = (l.getD y' []).getD x 0) (fun y _ => l.length - y) 0 (List.replicate l.length 0) ⟨Nat.zero_le _, by simp, fun x h => absurd h (Nat.not_lt_zero _)⟩ (by repeat' first | refine And.intro ?_ ?_ | exact True.intro | (show (_ : Int) = (_ : Int); omega) | omega | exact rfl | (simp only [RO.len]; omega)) ?_
    rintro y r ⟨hy, hr, hry⟩
    refine And.intro (fun h2 => ?_) (fun h2 => ?_)
    · have h2 : (y : Int) < (l.length : Int) := h2
      have hyl : y < l.length := by omega
      have hcl := (hc _ (getD_mem (d := []) hyl)).len
      refine And.intro (by omega) ?_
      refine Or.inl ?_
      refine Exists.intro (List.replicate 10 false ++ [true]) (And.intro (by decide +kernel) ?_)
      refine And.intro (by omega) ?_
      refine And.intro (fun _ => ?_) (fun h3 => absurd rfl h3)
      refine And.intro (by simp only [Int.toNat_natCast]; omega) ?_
      refine And.intro (show 0 ≤ (y : Int) ∧ (y : Int) < (r.length : Int) by omega) ?_
      refine And.intro (by omega) ?_
      refine And.intro (by omega) ?_
      refine nx (y + 1, r.set y ((l.getD y []).getD x 0)) ⟨by omega, by rw [List.length_set]; exact hr, fun y' hy' => ?_⟩ (show l.length - (y + 1) < l.length - y by omega) (by repeat' first | refine And.intro ?_ ?_ | exact True.intro | (show (_ : Int) = (_ : Int); omega) | omega | exact rfl | (simp only [RO.len]; omega))
      by_cases e : y' = y
      · subst e; rw [getD_set_eq (by omega)]
      · rw [getD_set_ne (Ne.symm e)]; exact hry y' (by omega)
    · have h2 : (l.length : Int) ≤ (y : Int) := h2
      have hrd : r = embR l x := ext_getD 0 (by rw [embR_len]; exact hr) fun z hz => by rw [hry z (by omega), embR_get (by omega)]
      refine And.intro (by omega) ?_
      refine nx (x + 1, q.set x r) ⟨by omega, by rw [List.length_set]; exact hq, fun x' hx' => ?_⟩ (show t.length - (x + 1) < t.length - x by omega) (by repeat' first | refine And.intro ?_ ?_ | exact True.intro | (show (_ : Int) = (_ : Int); omega) | omega | exact rfl | (simp only [RO.len]; omega))
      by_cases e : x' = x
      · subst e; rw [getD_set_eq (by omega)]; exact hrd
      · rw [getD_set_ne (Ne.symm e)]; exact hqx x' (by omega)
  · have h1 : ((List.replicate (t.length : Int).toNat ([] : List Int)).length : Int) ≤ (x : Int) := h1
    rw [List.length_replicate] at h1
    refine And.intro (And.intro (by omega) ?_) trivial
    refine congrArg (RO.rows .i64) (ext_getD [] (by rw [embL_len]; exact hq) fun z hz => ?_)
    rw [hqx z (by omega), embL_get (by omega)]
end Go.Proofs.Ytkbhgnbnnbengaa
end
section
/- The reference's Embed: contract. -/
namespace Go.Proofs.Ytkbhgnbnnbengaa
open Go Go.AM
set_option maxRecDepth 100000
set_option maxHeartbeats 1000000 in
theorem remb_fn (t l : List (List Int)) (hn : t.length ≤ 400) (hc : ∀ p ∈ l, p.length = t.length) (hl : l.length ≤ 400) : QF 30 [.ro (.rows .i64 t), .ro (.rows .i64 l)] (.ro (.rows .i64 (embL t.length l))) := mkQ Try.func30 (by decide +kernel) rfl (Nat.le_of_ble_eq_true rfl) fun _ => by
  refine And.intro (by omega) ?_
  refine And.intro (by omega) ?_
  refine Or.inr (Or.inl ?_)
  refine Exists.intro [] <| lp2 (fun (x : Nat) (_ : List (List Int)) => [(14, .int .i64 x)]) (fun _ q => [(11, .deep (.rows .i64 q) none)]) (fun x q => x ≤ t.length ∧ q.length = t.length ∧ (∀ x', x' < x → q.getD x' [] = embR l x') ∧ ∀ x', x ≤ x' → q.getD x' [] = []) (fun x _ => t.length - x) 0 (List.replicate t.length []) ⟨Nat.zero_le _, by simp, fun x h => absurd h (Nat.not_lt_zero _), fun x' _ => by simp only [List.getD, List.getElem?_replicate]; split <;> rfl⟩ (by repeat' first | refine And.intro ?_ ?_ | exact True.intro | (show (_ : Int) = (_ : Int); omega) | omega | exact rfl | (simp only [RO.len]; omega)) ?_
  rintro x q ⟨hx, hq, hqx, hq0⟩
  refine And.intro (fun h1 => ?_) (fun h1 => ?_)
  · have h1 : (x : Int) < (t.length : Int) := h1
    have hxl : x < t.length := by omega
    refine Exists.intro [] <| lp2 (fun (y : Nat) (_ : List (List Int)) => [(19, .int .i64 y)]) (fun _ q => [(11, .deep (.rows .i64 q) none)]) (fun y r => y ≤ l.length ∧ r.length = t.length ∧ r.getD x [] = (embR l x).take y ∧ ∀ x', x' ≠ x → r.getD x' [] = q.getD x' []) (fun y _ => l.length - y) 0 q ⟨Nat.zero_le _, hq, by rw [hq0 x (Nat.le_refl _)]; rfl, fun _ _ => rfl⟩ (by repeat' first | refine And.intro ?_ ?_ | exact True.intro | (show (_ : Int) = (_ : Int); omega) | omega | exact rfl | (simp only [RO.len]; omega)) ?_
    rintro y r ⟨hy, hr, hrx, hro⟩
    refine And.intro (fun h2 => ?_) (fun h2 => ?_)
    · have h2 : (y : Int) < (l.length : Int) := h2
      have hyl : y < l.length := by omega
      have hcl := hc _ (getD_mem (d := []) hyl)
      have hxp : (x : Int) < (((l.getD (y : Int).toNat []).length : Nat) : Int) := by simp only [Int.toNat_natCast]; omega
      have hrl : (r.getD x []).length = y := by rw [hrx, List.length_take, embR_len]; omega
      have hsn : r.getD x [] ++ [(l.getD y []).getD x 0] = (embR l x).take (y + 1) := by
        rw [hrx, List.take_succ_eq_append_getElem (by rw [embR_len]; exact hyl), ← getD_eq (d := 0) (by rw [embR_len]; exact hyl), embR_get hyl]
      refine And.intro (by omega) ?_
      refine Or.inr (Exists.intro (.fst 0 (.fst 1 (.fst 2 (.fst 3 (.fst 6 (.fst 7 (.br 4 (.br 5 (.br 8 (.br 9 (.br 10 (.br 11 (.br 12 (.br 13 .done .no) .no) .no) .no) .no) .no) (.br 8 (.br 5 (.br 9 (.br 10 (.br 11 (.br 12 (.br 13 .done .no) .no) .no) .no) .no) (.br 9 (.br 5 (.br 10 (.br 11 (.br 12 (.br 13 .done .no) .no) .no) .no) (.br 10 (.br 5 (.br 11 (.br 12 (.br 13 .done .no) .no) .no) .no) .no)) .no)) .no)) (.br 8 (.br 4 (.br 5 (.br 9 (.br 10 (.br 11 (.br 12 (.br 13 .done .no) .no) .no) .no) .no) (.br 9 (.br 5 (.br 10 (.br 11 (.br 12 (.br 13 .done .no) .no) .no) .no) (.br 10 (.br 5 (.br 11 (.br 12 (.br 13 .done .no) .no) .no) .no) .no)) .no)) (.br 9 (.br 4 (.br 5 (.br 10 (.br 11 (.br 12 (.br 13 .done .no) .no) .no) .no) (.br 10 (.br 5 (.br 11 (.br 12 (.br 13 .done .no) .no) .no) .no) .no)) (.br 10 (.br 4 (.br 5 (.br 11 (.br 12 (.br 13 .done .no) .no) .no) .no) .no) .no)) .no)) .no)))))))) (And.intro (by decide +kernel) ?_))
      apply schShr
      · intro K1 hK
        repeat' first | refine And.intro ?_ ?_ | exact True.intro | exact hK | exact hxp | (show (((r.getD x [] ++ [(l.getD y []).getD x 0]).length : Nat) : Int) ≤ 17592186044416; rw [List.length_append, List.length_singleton]; omega) | omega | exact rfl
      refine And.intro (by omega) ?_
      refine nx (y + 1, r.set x (r.getD x [] ++ [(l.getD y []).getD x 0])) ⟨by omega, by rw [List.length_set]; exact hr, by rw [getD_set_eq (by omega), hsn], fun x' hne => by rw [getD_set_ne (Ne.symm hne)]; exact hro x' hne⟩ (show l.length - (y + 1) < l.length - y by omega) (by repeat' first | refine And.intro ?_ ?_ | exact True.intro | (show (_ : Int) = (_ : Int); omega) | omega | exact rfl | (simp only [RO.len]; omega))
    · have h2 : (l.length : Int) ≤ (y : Int) := h2
      refine And.intro (by omega) ?_
      refine nx (x + 1, r) ⟨by omega, hr, fun x' hx' => ?_, fun x' hx' => by rw [hro x' (by omega)]; exact hq0 x' (by omega)⟩ (show t.length - (x + 1) < t.length - x by omega) (by repeat' first | refine And.intro ?_ ?_ | exact True.intro | (show (_ : Int) = (_ : Int); omega) | omega | exact rfl | (simp only [RO.len]; omega))
      by_cases e : x' = x
      · subst e; rw [hrx, List.take_of_length_le (by rw [embR_len]; omega)]
      · rw [hro x' e]; exact hqx x' (by omega)
  · have h1 : (t.length : Int) ≤ (x : Int) := h1
    refine And.intro ?_ trivial
    refine And.intro trivial ?_
    refine congrArg (RO.rows .i64) (ext_getD [] (by rw [embL_len]; exact hq) fun z hz => ?_)
    rw [hqx z (by omega), embL_get (by omega)]
end Go.Proofs.Ytkbhgnbnnbengaa
end
section
/- Package subdirect: Embed of what is no congruence: contract; the laws of a decomposition's tuples. -/
namespace Go.Proofs.Ytkbhgnbnnbengaa
open Go Go.AM
set_option maxRecDepth 100000
theorem sembN_fn (t l : List (List Int)) (h : ¬ (Semi t ∧ ∀ p ∈ l, IsCg t p 0)) (hl : l.length ≤ 400) : QF 26 [.ro (.rows .i64 t), .ro (.rows .i64 l)] .nils := mkQ Try.func26 (by decide +kernel) rfl (Nat.le_of_ble_eq_true rfl) fun _ => by
  refine Or.inl (cq (valid_fn t) (And.intro rfl trivial) ?_)
  refine And.intro (fun _ => ?_) (fun h1 => ?_)
  · exact And.intro trivial trivial
  have hs := valid_zero.1 h1
  have hmost := hs.most
  refine Exists.intro [] <| lp (X := Nat) (fun i => [(16, .int .i64 i)]) (fun _ => []) (fun i => i ≤ l.length ∧ ∀ j, j < i → IsCg t (l.getD j []) 0) (fun i => l.length - i) 0 ⟨Nat.zero_le _, fun j hj => absurd hj (Nat.not_lt_zero _)⟩ (by repeat' first | refine And.intro ?_ ?_ | exact True.intro | (show (_ : Int) = (_ : Int); omega) | omega | exact rfl | (simp only [RO.len]; omega)) ?_
  rintro i ⟨hi, hc⟩
  refine And.intro (fun h1 => ?_) (fun h1 => ?_)
  · have h1 : (i : Int) < (l.length : Int) := h1
    refine And.intro (by omega) ?_
    refine Or.inl (cq (sdcg_fn t (l.getD i []) hs) (And.intro rfl (And.intro rfl trivial)) ?_)
    refine And.intro (fun _ => ?_) (fun h2 => ?_)
    · exact And.intro trivial trivial
    have h2 : (!cgB t (l.getD i []) 0) = false := h2
    refine And.intro (by omega) ?_
    refine nx (i + 1) ⟨by omega, fun j hj => ?_⟩ (show l.length - (i + 1) < l.length - i by omega) (by repeat' first | refine And.intro ?_ ?_ | exact True.intro | (show (_ : Int) = (_ : Int); omega) | omega | exact rfl | (simp only [RO.len]; omega))
    by_cases e : j = i
    · subst e; exact cgB_true.1 (by simpa using h2)
    · exact hc j (by omega)
  · have h1 : (l.length : Int) ≤ (i : Int) := h1
    refine absurd ⟨hs, fun p hp => ?_⟩ h
    obtain ⟨j, hj, rfl⟩ := mem_getD [] hp
    exact hc j (by omega)
theorem emb_ne {t R : List (List Int)} (h : DecOk t R) {x y : Nat} (hx : x < t.length) (hy : y < t.length) (hne : x ≠ y) : embR R x ≠ embR R y := fun e => by
  have hn : t.length ≤ 4096 := by have := h.chk.semi.most; omega
  have hpt : ∀ p ∈ R, Pt t.length p := fun p hp => (h.chk.cg p hp).pt
  refine hne ((cls_disc (Pt.mtL hn hpt)).1 h.chk.meet x y hx hy ((mtL_ker hn hx hy hpt).2 fun p hp => ?_))
  obtain ⟨j, hj, rfl⟩ := mem_getD [] hp
  show (R.getD j []).getD x 0 = (R.getD j []).getD y 0
  rw [← embR_get hj, ← embR_get hj, e]
end Go.Proofs.Ytkbhgnbnnbengaa
end
section
/- The statement SubdirectEmbeds: the walk. -/
namespace Go.Proofs.Ytkbhgnbnnbengaa
open Go Go.AM
set_option maxRecDepth 100000
def qtL (t : List (List Int)) (R : List (List Int)) (k : Nat) : List (List (List Int)) := (List.range k).map fun j => quoL t (R.getD j [])
theorem qtL_succ (t R : List (List Int)) (k : Nat) : qtL t R (k + 1) = qtL t R k ++ [quoL t (R.getD k [])] := by simp [qtL, List.range_succ]
theorem qtL_len (t R : List (List Int)) (k : Nat) : (qtL t R k).length = k := by simp [qtL]
theorem qtL_get {t R : List (List Int)} {k j : Nat} (h : j < k) : (qtL t R k).getD j [] = quoL t (R.getD j []) := by simp [qtL, List.getD, h]
set_option maxHeartbeats 2000000 in
theorem sdEms_fn (t l : List (List Int)) : QF 8 [.ro (.rows .i64 t), .ro (.rows .i64 l)] (.bool (.lit true)) := mkQ Try.func8 (by decide +kernel) rfl (Nat.le_of_ble_eq_true rfl) fun _ => by
  refine Or.inl (cq (large22_fn t 7) (And.intro rfl (And.intro rfl trivial)) ?_)
  refine And.intro (fun _ => ?_) (fun h1 => ?_)
  · refine Or.inl (cq awake22_fn trivial ?_)
    exact And.intro rfl trivial
  refine And.intro (fun _ => ?_) (fun h2 => ?_)
  · refine Or.inl (cq awake22_fn trivial ?_)
    exact And.intro rfl trivial
  have h2 : (l.length : Int) ≤ 8 := h2
  have hn : Semi t → t.length ≤ 60 := fun hs => Nat.le_trans (large_no (m := 7) h1 hs) (by decide)
  by_cases hc : Semi t ∧ ∀ p ∈ l, IsCg t p 0
  · have hs := hc.1
    refine Or.inl (cq (semb_fn t l hs hc.2 (by omega)) (And.intro rfl (And.intro rfl trivial)) ?_)
    refine Or.inl (cq (rvalid_fn t) (And.intro rfl trivial) ?_)
    have hgood : ∀ j, j < l.length → cgB t (l.getD j []) 0 = true := fun j hj => cgB_true.2 (hc.2 _ (getD_mem (d := []) hj))
    refine Exists.intro [] <| lp2 (fun (i : Nat) (b : Bool) => [(35, .int .i64 i), (6, .bool (.v b))]) (fun _ _ => []) (fun i b => i ≤ l.length ∧ b = true) (fun i _ => l.length - i) 0 (decide (validV t = 0)) ⟨Nat.zero_le _, decide_eq_true (valid_zero.2 hs)⟩ (by repeat' first | refine And.intro ?_ ?_ | exact True.intro | (show (_ : Int) = (_ : Int); omega) | omega | exact rfl | (simp only [RO.len]; omega)) ?_
    rintro i b ⟨hi, hb⟩
    refine And.intro (fun h3 => ?_) (fun h3 => ?_)
    · have h3 : (i : Int) < (l.length : Int) := h3
      refine And.intro (by omega) ?_
      refine And.intro (fun _ => ?_) (fun h4 => absurd (h4.symm.trans hb) (by decide))
      refine Or.inl (cq (rcgr_fn t (l.getD i []) 0) (And.intro rfl (And.intro rfl (And.intro rfl trivial))) ?_)
      refine And.intro (by omega) ?_
      exact nx (i + 1, cgB t (l.getD i []) 0) ⟨by omega, hgood i (by omega)⟩ (show l.length - (i + 1) < l.length - i by omega) (by repeat' first | refine And.intro ?_ ?_ | exact True.intro | (show (_ : Int) = (_ : Int); omega) | omega | exact rfl | (simp only [RO.len]; omega))
    have h3 : (l.length : Int) ≤ (i : Int) := h3
    refine And.intro (fun h4 => ?_) (fun _ => ?_)
    · have h4 : (!b) = true := h4
      rw [hb] at h4; exact absurd h4 (by decide)
    refine Or.inl (cq (remb_fn t l (by have := hn hs; omega) (fun p hp => (hc.2 p hp).len) (by omega)) (And.intro rfl (And.intro rfl trivial)) ?_)
    refine Or.inl (cq (sameRows_fn (embL t.length l) (embL t.length l)) (And.intro rfl (And.intro rfl trivial)) ?_)
    refine And.intro (fun h5 => ?_) (fun _ => ?_)
    · have h5 : (!decide (embL t.length l = embL t.length l)) = true := h5
      rw [decide_eq_true rfl] at h5; exact absurd h5 (by decide)
    refine Or.inr (Or.inr (ce (dec_fn t hs (hn hs)) (And.intro rfl trivial) ?_))
    intro R hR
    have hR : DecOk t R := hR
    have hf := hR.chk.few
    have h60 := hn hs
    have hel := embL_len t.length R
    refine Or.inl (cq (semb_fn t R hs hR.chk.cg (by omega)) (And.intro rfl (And.intro rfl trivial)) ?_)
    refine And.intro (fun h => absurd rfl h) (fun _ => ?_)
    refine And.intro (fun h5 => ?_) (fun _ => ?_)
    · have h5 : ¬ ((embL t.length R).length : Int) = (t.length : Int) := h5
      omega
    refine Exists.intro [] <| lp (X := Nat) (fun k => [(79, .int .i64 k), (11, .vec 94)]) (fun k => [(94, .vec 0 (.rows3 (qtL t R k)) [])]) (fun k => k ≤ R.length) (fun k => R.length - k) 0 (Nat.zero_le _) (by repeat' first | refine And.intro ?_ ?_ | exact True.intro | (show (_ : Int) = (_ : Int); omega) | omega | exact rfl | (simp only [RO.len]; omega)) ?_
    rintro k hk
    refine And.intro (fun h5 => ?_) (fun h5 => ?_)
    · have h5 : (k : Int) < (R.length : Int) := h5
      have hkl : k < R.length := by omega
      have he : qtL t R k ++ [quoL t (R.getD k [])] = qtL t R (k + 1) := (qtL_succ t R k).symm
      have hlen : (qtL t R k ++ [quoL t (R.getD k [])]).length = k + 1 := by rw [he, qtL_len]
      refine And.intro (by omega) ?_
      refine Or.inl (cq (cQuo_fn t (R.getD k []) (hR.chk.cg _ (getD_mem (d := []) hkl))) (And.intro rfl (And.intro rfl trivial)) ?_)
      refine And.intro (fun h => absurd rfl h) (fun _ => ?_)
      refine And.intro (show ((qtL t R k ++ [quoL t (R.getD k [])]).length : Int) ≤ 2199023255552 by omega) ?_
      refine And.intro (by omega) ?_
      exact nx (k + 1) (show k + 1 ≤ R.length by omega) (show R.length - (k + 1) < R.length - k by omega) (by repeat' first | refine And.intro ?_ ?_ | exact True.intro | exact congrArg RO.rows3 he | omega | exact rfl)
    have h5 : (R.length : Int) ≤ (k : Int) := h5
    have hke : k = R.length := by omega
    subst hke
    refine Exists.intro [5, 11, 67, 71, 94, 10067, 10094] <| lp (X := Nat) (fun x => [(98, .int .i64 x), (5, .ro (.rows .i64 (embL t.length R))), (11, .ro (.rows3 (qtL t R R.length)))]) (fun _ => []) (fun x => x ≤ t.length) (fun x => t.length - x) 0 (Nat.zero_le _) (by repeat' first | refine And.intro ?_ ?_ | exact True.intro | (show (_ : Int) = (_ : Int); omega) | omega | exact rfl | (simp only [RO.len]; omega)) ?_
    rintro x hx
    refine And.intro (fun h6 => ?_) (fun h6 => ?_)
    · have h6 : (x : Int) < (t.length : Int) := h6
      refine Exists.intro [] <| lp (X := Nat) (fun y => [(103, .int .i64 y)]) (fun _ => []) (fun y => y ≤ t.length) (fun y => t.length - y) 0 (Nat.zero_le _) (by repeat' first | refine And.intro ?_ ?_ | exact True.intro | (show (_ : Int) = (_ : Int); omega) | omega | exact rfl | (simp only [RO.len]; omega)) ?_
      rintro y hy
      refine And.intro (fun h7 => ?_) (fun h7 => ?_)
      · have h7 : (y : Int) < (t.length : Int) := h7
        have hxl : x < t.length := by omega
        have hyl : y < t.length := by omega
        refine Or.inl ?_
        refine Exists.intro (List.replicate 24 false) (And.intro (by decide +kernel) ?_)
        have hex := embL_get (l := R) hxl
        have hent := hs.toSh.ent hxl hyl
        have hrl := hs.toSh.len hxl
        have heyl : ((embL t.length R).getD y []).length = R.length := by rw [embL_get hyl, embR_len]
        have hexl : ((embL t.length R).getD x []).length = R.length := by rw [hex, embR_len]
        refine And.intro (fun h8 => ?_) (fun h8 => ?_)
        · have h8 : ¬ (x : Int) = (y : Int) := h8
          refine And.intro (by omega) ?_
          refine And.intro (by omega) ?_
          refine Exists.intro _ (Exists.intro _ (And.intro (same_fn ((embL t.length R).getD x []) ((embL t.length R).getD y [])) (And.intro (And.intro rfl (And.intro rfl trivial)) ?_)))
          refine And.intro (fun h9 => ?_) (fun _ => ?_)
          · have h9 := of_decide_eq_true h9
            rw [embL_get hxl, embL_get hyl] at h9
            exact absurd h9 (emb_ne hR hxl hyl (by omega))
          refine And.intro (by omega) ?_
          refine And.intro (fun h9 => ?_) (fun _ => ?_)
          · have h9 : ¬ (((embL t.length R).getD x []).length : Int) = (R.length : Int) := h9
            omega
          refine Exists.intro [] <| lp (X := Nat) (fun k => [(132, .int .i64 k)]) (fun _ => []) (fun k => k ≤ R.length) (fun k => R.length - k) 0 (Nat.zero_le _) (by repeat' first | refine And.intro ?_ ?_ | exact True.intro | (show (_ : Int) = (_ : Int); omega) | omega | exact rfl | (simp only [RO.len]; omega)) ?_
          rintro k hk
          refine And.intro (fun h10 => ?_) (fun h10 => ?_)
          · have h10 : (k : Int) < ((qtL t R R.length).length : Int) := h10
            have hkl : k < R.length := by rw [qtL_len] at h10; omega
            have hcg := hR.chk.cg _ (getD_mem (d := []) hkl)
            refine And.intro (by omega) ?_
            have hcx := cls_lt hcg.val.2 (x := x) (by rw [hcg.len]; exact hxl)
            have hcy := cls_lt hcg.val.2 (x := y) (by rw [hcg.len]; exact hyl)
            refine Or.inr (Exists.intro .txt (And.intro (by decide +kernel) ?_))
            refine And.intro (by omega) ?_
            refine And.intro (show 0 ≤ (y : Int) ∧ (y : Int) < ((t.getD x []).length : Int) by omega) ?_
            refine And.intro (show 0 ≤ (t.getD x []).getD y 0 ∧ (t.getD x []).getD y 0 < ((embL t.length R).length : Int) by rw [hent.1, hel]; omega) ?_
            refine And.intro (show 0 ≤ (k : Int) ∧ (k : Int) < (((embL t.length R).getD ((t.getD x []).getD y 0).toNat []).length : Int) by rw [hent.1, Int.toNat_natCast, embL_get hent.2, embR_len]; omega) ?_
            refine And.intro (by omega) ?_
            refine And.intro (show 0 ≤ (k : Int) ∧ (k : Int) < (((embL t.length R).getD x []).length : Int) by omega) ?_
            refine And.intro (show 0 ≤ ((embL t.length R).getD x []).getD k 0 ∧ ((embL t.length R).getD x []).getD k 0 < (((qtL t R R.length).getD k []).length : Int) by rw [qtL_get hkl, embL_get hxl, embR_get hkl, quoL_len]; omega) ?_
            refine And.intro (by omega) ?_
            refine And.intro (show 0 ≤ (k : Int) ∧ (k : Int) < (((embL t.length R).getD y []).length : Int) by omega) ?_
            refine And.intro (show 0 ≤ ((embL t.length R).getD y []).getD k 0 ∧ ((embL t.length R).getD y []).getD k 0 < ((((qtL t R R.length).getD k []).getD (((embL t.length R).getD x []).getD k 0).toNat []).length : Int) by rw [qtL_get hkl, embL_get hxl, embL_get hyl, embR_get hkl, embR_get hkl, quoL_get hcx.2.1, quoR_len]; omega) ?_
            refine And.intro (fun h11 => ?_) (fun _ => ?_)
            · refine absurd ?_ h11
              show ((embL t.length R).getD ((t.getD x []).getD y 0).toNat []).getD k 0 = (((qtL t R R.length).getD k []).getD (((embL t.length R).getD x []).getD k 0).toNat []).getD (((embL t.length R).getD y []).getD k 0).toNat 0
              rw [hent.1, Int.toNat_natCast, embL_get hent.2, qtL_get hkl, embL_get hxl, embL_get hyl, embR_get hkl, embR_get hkl, embR_get hkl]
              exact (quo_hom hs.toSh hcg.len hcg.val.2 hcg.cg hxl hyl).symm
            refine And.intro (by omega) ?_
            exact nx (k + 1) (show k + 1 ≤ R.length by omega) (show R.length - (k + 1) < R.length - k by omega) (by repeat' first | refine And.intro ?_ ?_ | exact True.intro | (show (_ : Int) = (_ : Int); omega) | omega | exact rfl | (simp only [RO.len]; omega))
          · have h10 : ((qtL t R R.length).length : Int) ≤ (k : Int) := h10
            refine And.intro (by omega) ?_
            exact nx (y + 1) (show y + 1 ≤ t.length by omega) (show t.length - (y + 1) < t.length - y by omega) (by repeat' first | refine And.intro ?_ ?_ | exact True.intro | (show (_ : Int) = (_ : Int); omega) | omega | exact rfl | (simp only [RO.len]; omega))
        · have h8 : (x : Int) = (y : Int) := h8
          refine And.intro (by omega) ?_
          refine And.intro (fun h9 => ?_) (fun _ => ?_)
          · have h9 : ¬ (((embL t.length R).getD x []).length : Int) = (R.length : Int) := h9
            omega
          refine Exists.intro [] <| lp (X := Nat) (fun k => [(132, .int .i64 k)]) (fun _ => []) (fun k => k ≤ R.length) (fun k => R.length - k) 0 (Nat.zero_le _) (by repeat' first | refine And.intro ?_ ?_ | exact True.intro | (show (_ : Int) = (_ : Int); omega) | omega | exact rfl | (simp only [RO.len]; omega)) ?_
          rintro k hk
          refine And.intro (fun h10 => ?_) (fun h10 => ?_)
          · have h10 : (k : Int) < ((qtL t R R.length).length : Int) := h10
            have hkl : k < R.length := by rw [qtL_len] at h10; omega
            have hcg := hR.chk.cg _ (getD_mem (d := []) hkl)
            refine And.intro (by omega) ?_
            have hcx := cls_lt hcg.val.2 (x := x) (by rw [hcg.len]; exact hxl)
            have hcy := cls_lt hcg.val.2 (x := y) (by rw [hcg.len]; exact hyl)
            refine Or.inr (Exists.intro .txt (And.intro (by decide +kernel) ?_))
            refine And.intro (by omega) ?_
            refine And.intro (show 0 ≤ (y : Int) ∧ (y : Int) < ((t.getD x []).length : Int) by omega) ?_
            refine And.intro (show 0 ≤ (t.getD x []).getD y 0 ∧ (t.getD x []).getD y 0 < ((embL t.length R).length : Int) by rw [hent.1, hel]; omega) ?_
            refine And.intro (show 0 ≤ (k : Int) ∧ (k : Int) < (((embL t.length R).getD ((t.getD x []).getD y 0).toNat []).length : Int) by rw [hent.1, Int.toNat_natCast, embL_get hent.2, embR_len]; omega) ?_
            refine And.intro (by omega) ?_
            refine And.intro (show 0 ≤ (k : Int) ∧ (k : Int) < (((embL t.length R).getD x []).length : Int) by omega) ?_
            refine And.intro (show 0 ≤ ((embL t.length R).getD x []).getD k 0 ∧ ((embL t.length R).getD x []).getD k 0 < (((qtL t R R.length).getD k []).length : Int) by rw [qtL_get hkl, embL_get hxl, embR_get hkl, quoL_len]; omega) ?_
            refine And.intro (by omega) ?_
            refine And.intro (show 0 ≤ (k : Int) ∧ (k : Int) < (((embL t.length R).getD y []).length : Int) by omega) ?_
            refine And.intro (show 0 ≤ ((embL t.length R).getD y []).getD k 0 ∧ ((embL t.length R).getD y []).getD k 0 < ((((qtL t R R.length).getD k []).getD (((embL t.length R).getD x []).getD k 0).toNat []).length : Int) by rw [qtL_get hkl, embL_get hxl, embL_get hyl, embR_get hkl, embR_get hkl, quoL_get hcx.2.1, quoR_len]; omega) ?_
            refine And.intro (fun h11 => ?_) (fun _ => ?_)
            · refine absurd ?_ h11
              show ((embL t.length R).getD ((t.getD x []).getD y 0).toNat []).getD k 0 = (((qtL t R R.length).getD k []).getD (((embL t.length R).getD x []).getD k 0).toNat []).getD (((embL t.length R).getD y []).getD k 0).toNat 0
              rw [hent.1, Int.toNat_natCast, embL_get hent.2, qtL_get hkl, embL_get hxl, embL_get hyl, embR_get hkl, embR_get hkl, embR_get hkl]
              exact (quo_hom hs.toSh hcg.len hcg.val.2 hcg.cg hxl hyl).symm
            refine And.intro (by omega) ?_
            exact nx (k + 1) (show k + 1 ≤ R.length by omega) (show R.length - (k + 1) < R.length - k by omega) (by repeat' first | refine And.intro ?_ ?_ | exact True.intro | (show (_ : Int) = (_ : Int); omega) | omega | exact rfl | (simp only [RO.len]; omega))
          · have h10 : ((qtL t R R.length).length : Int) ≤ (k : Int) := h10
            refine And.intro (by omega) ?_
            exact nx (y + 1) (show y + 1 ≤ t.length by omega) (show t.length - (y + 1) < t.length - y by omega) (by repeat' first | refine And.intro ?_ ?_ | exact True.intro | (show (_ : Int) = (_ : Int); omega) | omega | exact rfl | (simp only [RO.len]; omega))
      · have h7 : (t.length : Int) ≤ (y : Int) := h7
        refine And.intro (by omega) ?_
        exact nx (x + 1) (show x + 1 ≤ t.length by omega) (show t.length - (x + 1) < t.length - x by omega) (by repeat' first | refine And.intro ?_ ?_ | exact True.intro | (show (_ : Int) = (_ : Int); omega) | omega | exact rfl | (simp only [RO.len]; omega))
    · have h6 : (t.length : Int) ≤ (x : Int) := h6
      refine Or.inl (cq awake22_fn trivial ?_)
      exact And.intro rfl trivial
  · refine Or.inl (cq (sembN_fn t l hc (by omega)) (And.intro rfl (And.intro rfl trivial)) ?_)
    refine Or.inl (cq (rvalid_fn t) (And.intro rfl trivial) ?_)
    refine Exists.intro [] <| lp2 (fun (i : Nat) (b : Bool) => [(35, .int .i64 i), (6, .bool (.v b))]) (fun _ _ => []) (fun i b => i ≤ l.length ∧ (b = true → Semi t ∧ ∀ j, j < i → IsCg t (l.getD j []) 0)) (fun i _ => l.length - i) 0 (decide (validV t = 0)) ⟨Nat.zero_le _, fun h => ⟨valid_zero.1 (of_decide_eq_true h), fun j hj => absurd hj (Nat.not_lt_zero _)⟩⟩ (by repeat' first | refine And.intro ?_ ?_ | exact True.intro | (show (_ : Int) = (_ : Int); omega) | omega | exact rfl | (simp only [RO.len]; omega)) ?_
    rintro i b ⟨hi, hb⟩
    refine And.intro (fun h3 => ?_) (fun h3 => ?_)
    · have h3 : (i : Int) < (l.length : Int) := h3
      refine And.intro (by omega) ?_
      refine And.intro (fun h4 => ?_) (fun h4 => ?_)
      · have h4 : b = true := h4
        refine Or.inl (cq (rcgr_fn t (l.getD i []) 0) (And.intro rfl (And.intro rfl (And.intro rfl trivial))) ?_)
        refine And.intro (by omega) ?_
        refine nx (i + 1, cgB t (l.getD i []) 0) ⟨by omega, fun h => ⟨(hb h4).1, fun j hj => ?_⟩⟩ (show l.length - (i + 1) < l.length - i by omega) (by repeat' first | refine And.intro ?_ ?_ | exact True.intro | (show (_ : Int) = (_ : Int); omega) | omega | exact rfl | (simp only [RO.len]; omega))
        by_cases e : j = i
        · subst e; exact cgB_true.1 h
        · exact (hb h4).2 j (by omega)
      · refine And.intro (by omega) ?_
        exact nx (i + 1, false) ⟨by omega, fun h => absurd h (by decide)⟩ (show l.length - (i + 1) < l.length - i by omega) (by repeat' first | refine And.intro ?_ ?_ | exact True.intro | (show (_ : Int) = (_ : Int); omega) | omega | exact rfl | (simp only [RO.len]; omega))
    · have h3 : (l.length : Int) ≤ (i : Int) := h3
      refine And.intro (fun _ => ?_) (fun h4 => ?_)
      · refine And.intro (fun _ => ?_) (fun h => absurd rfl h)
        refine Or.inl (cq awake22_fn trivial ?_)
        exact And.intro rfl trivial
      · have h4 : (!b) = false := h4
        have hbt := hb (by simpa using h4)
        refine absurd ⟨hbt.1, fun p hp => ?_⟩ hc
        obtain ⟨j, hj, rfl⟩ := mem_getD [] hp
        exact hbt.2 j (by omega)
end Go.Proofs.Ytkbhgnbnnbengaa
end
section
/- From contracts to the given statements: how the arguments read, before and after. -/
namespace Go.Proofs.Ytkbhgnbnnbengaa
open Go Go.AM
open Go.ChangeShapes Go.WideShapes Go.ChangeAt Go.RowKit Go.Deep
def noM : Msk := fun _ _ => False
section
variable {H : Type} {enc : TypeId × Value → H} {P : Program} {w : World}
theorem wf_in {k : IntKind} {n : Int} (h : (Lit.int k n).wf = true) : inK k n := by
  simp only [Lit.wf, Bool.and_eq_true, decide_eq_true_eq] at h
  exact h
theorem weight_mem {e : TypeId} {d : DataW H} {x : Nat} : ∀ {l : List (DataW H)}, d ∈ l → x ∈ d.weights P e → x ∈ DataW.weightsAll P e l
  | [], h, _ => by cases h
  | c :: l, h, hx => by
    simp only [DataW.weightsAll, List.mem_append]
    rcases List.mem_cons.1 h with rfl | h
    · exact .inl hx
    · exact .inr (weight_mem h hx)
theorem rows_rep {t e q : TypeId} {n : Nat} {v : Value} {y : DataW H × List MemPlace} (ht : P.underlying t = some (.slice e)) (he : P.underlying e = some (.slice q)) (hq : P.underlying q = some (.int .i64)) (ce : P.cellsOf e = 1) (cq : P.cellsOf q = 1)
    (be : 1 ≤ P.bytesOf e) (bq : 1 ≤ P.bytesOf q) (h : DataW.trod enc P w 0 (fun _ => true) true n t [v] = some y) (hw : ∀ x ∈ y.1.weights P t, x ≤ reachBytes) : ∃ l, RepC noEnv w noM (.ro (.rows .i64 l)) v := by
  have hrb : reachBytes = 140737488351232 := rfl
  rcases open_int_rows ht he hq ce cq h with ⟨hv, _⟩ | ⟨a, len, cap, A, L, C, Z, hv, _, hl, hm, hy, hrows⟩
  · obtain rfl : v = .slice none 0 0 := by simpa using hv
    exact ⟨[], Nat.zero_le _, none, 0, rfl, Nat.le_refl _, .inl rfl⟩
  · obtain rfl : v = .slice (some a) len cap := by simpa using hv
    subst hy
    have hlen : len * P.bytesOf e ≤ reachBytes := by
      have := hw ((len + (cap - len)) * P.bytesOf e) (by simp [DataW.weights, ht])
      exact Nat.le_trans (Nat.mul_le_mul_right _ (by omega)) this
    have hlen1 : len ≤ reachBytes := Nat.le_trans (by have := Nat.mul_le_mul_left len be; omega) hlen
    have hL : ∀ r, r < len → L r ≤ reachBytes := fun r hr => by
      obtain ⟨_, h1, h2, h3, _, h4, _⟩ := hrows r (by omega)
      cases hA : A r with
      | none => have := h4 hA; omega
      | some a' =>
        have hx : (L r + ((Z r).length - L r)) * P.bytesOf q ≤ reachBytes := by
          refine hw _ ?_
          simp only [DataW.weights, ht, List.mem_cons, List.mem_append]
          refine .inr (.inl (weight_mem (d := intRow .i64 (A r) (L r) (Z r)) (List.mem_map.2 ⟨r, List.mem_range.2 hr, rfl⟩) ?_))
          rw [hA]
          simp [intRow, DataW.weights, he, lits]
          left
          rw [Nat.min_eq_left (by omega)]
        have h5 : L r * 1 ≤ (L r + ((Z r).length - L r)) * P.bytesOf q := Nat.mul_le_mul (by omega) bq
        omega
    refine ⟨(List.range len).map fun r => (Z r).take (L r), ?_⟩
    have hll : (RO.rows .i64 ((List.range len).map fun r => (Z r).take (L r))).len = len := by simp [RO.len]
    refine ⟨by rw [hll]; exact Nat.le_trans hlen1 (by rw [hrb]; decide), some a, cap, by rw [hll], by rw [hll]; exact hl, ?_⟩
    by_cases h0 : len = 0
    · exact .inl (by rw [RO.cells, hll, h0, Nat.zero_mul])
    have hcell0 := (hrows 0 (by omega)).1
    obtain ⟨b, off, spot⟩ := a
    have hspot : spot = none := by simpa [Addr.add] using World.cell?_spot hcell0
    subst hspot
    refine .inr ⟨b, off, rfl, fun r hr => ?_⟩
    have hr : r < len := by simpa [RO.cells, hll, RO.sz] using hr
    obtain ⟨h1, h2, h3, h4, h5, h6, h7⟩ := hrows r (by omega)
    refine ⟨.slice (A r) (L r) (C r), by rw [← add_plain]; exact h1, fun hh => hh, ?_⟩
    have hget : ((List.range len).map fun r => (Z r).take (L r)).getD r [] = (Z r).take (L r) := by simp [List.getD, hr]
    show SlI w noM .i64 (((List.range len).map fun r => (Z r).take (L r)).getD r []) _
    rw [hget]
    have hzl : ((Z r).take (L r)).length = L r := by rw [List.length_take]; omega
    refine ⟨by rw [hzl]; have := hL r hr; simp only [LB]; omega, A r, C r, by rw [hzl], by rw [hzl]; exact h2, ?_⟩
    by_cases hl0 : L r = 0
    · exact .inl (by rw [hzl, hl0])
    cases hA : A r with
    | none => have := h6 hA; omega
    | some a' =>
      obtain ⟨h8, h9⟩ := h7 a' hA
      obtain ⟨b', off', spot'⟩ := a'
      have hspot : spot' = none := by simpa [Addr.add] using World.cell?_spot (h9 0 (by omega))
      subst hspot
      refine .inr ⟨b', off', rfl, fun c hc => ?_⟩
      rw [hzl] at hc
      have hg2 : ((Z r).take (L r)).getD c 0 = (Z r).getD c 0 := by simp [List.getD, hc]
      refine ⟨.int .i64 ((Z r).getD c 0), by rw [← add_plain]; exact h9 c (by omega), fun hh => hh, by rw [hg2], ?_⟩
      rw [hg2]
      refine wf_in (h5 _ ?_)
      have : c < (Z r).length := by omega
      simp [List.getD, this]
theorem stp_heap {W W' : World} (hs : Stp (fun _ _ => False) W W') {b : Nat} (hb : b < W.heap.size) : W'.heap[b]? = W.heap[b]? := by
  rcases hs.2 b hb with h | ⟨cs, cs', ty, h1, h2, h3, h4⟩ | ⟨_, _, _, _, _, _, h⟩
  · exact h
  · rw [h1, h2]
    have : cs' = cs := Array.ext_getElem? fun i => h4 i (by simp)
    rw [this]
  · exact h.elim
theorem stp_trod {t : TypeId} (hl : laidOutB P = true) (hr : P.readableRec t = true) (hrow : t < P.types.size) {W W' : World} {v : Value} {d : DataW H} {ps : List MemPlace}
    (h : DataW.Trod enc P W 0 (fun _ => true) true t v d ps) (hs : Stp (fun _ _ => False) W W') (hlt : ∀ x ∈ ps, x.block < W.heap.size) (sp : Nat → Bool) (hsp : ∀ x ∈ ps, sp x.block = true) :
    DataW.Trod enc P W' 0 sp true t v d ps :=
  WideElems.Trod_stays hl hr hrow h (fun x hx => by
    have hb := hlt x hx
    cases x with
    | cell b o => exact World.cell?_of_block (w := W) (stp_heap hs hb)
    | map b => exact stp_heap hs hb) hsp
theorem stp_kept {W W' : World} (hs : Stp (fun _ _ => False) W W') (may : MemPlace → Prop) : W.keptBut W' may := by
  refine ⟨hs.3.1.1, hs.3.1.2, fun i hi => ?_⟩
  rw [stp_heap hs hi]
  cases W.heap[i]? with
  | none => exact rfl
  | some o => cases o <;> first | exact ⟨rfl, rfl, rfl, fun _ _ => rfl⟩ | exact .inr ⟨rfl, rfl⟩ | exact rfl
theorem each_mem : ∀ {ts : List TypeId} {ds : List (DataW H)} {j : Nat} {t : TypeId} {d : DataW H} {x : Nat}, ts[j]? = some t → ds[j]? = some d → x ∈ d.weights P t → x ∈ DataW.weightsEach P ts ds
  | [], _, j, _, _, _, h, _, _ => by simp at h
  | _ :: _, [], j, _, _, _, _, h, _ => by simp at h
  | t :: ts, d :: ds, 0, t', d', x, h1, h2, hx => by
    simp at h1 h2
    subst h1; subst h2
    simp [DataW.weightsEach, hx]
  | t :: ts, d :: ds, j + 1, t', d', x, h1, h2, hx => by
    have := each_mem (ts := ts) (ds := ds) (j := j) (by simpa using h1) (by simpa using h2) hx
    simp [DataW.weightsEach, this]
theorem rows_arg {t e q : TypeId} {r : Reach} {b0 : Nat} {v : Value} {d : DataW H} {p : List MemPlace} (ht : P.underlying t = some (.slice e)) (he : P.underlying e = some (.slice q)) (hq : P.underlying q = some (.int .i64)) (ce : P.cellsOf e = 1) (cq : P.cellsOf q = 1)
    (be : 1 ≤ P.bytesOf e) (bq : 1 ≤ P.bytesOf q) (hv : Value.okWide P w r b0 t v) (h : DataW.Trod enc P w 0 (fun _ => true) true t v d p) (hw : ∀ x ∈ d.weights P t, x ≤ reachBytes) : ∃ l, RepT noEnv w noM (.ro (.rows .i64 l)) v := by
  obtain ⟨a, len, cap, rfl⟩ := okWide_slice ht hv
  obtain ⟨fuel, hf⟩ := h
  exact rows_rep ht he hq ce cq be bq (y := (d, p)) hf hw
end
end Go.Proofs.Ytkbhgnbnnbengaa
end
