import Derived.Test.YtdjbbjjmjopofaaGreatIn
import Derived.Test.YtdjbbjjmjopofaaGreatZero
import Derived.Test.YtdjbbjjmjopofaaGreatGrpLaw
import Derived.Test.YtdjbbjjmjopofaaGreatGroup
import Derived.Test.YtdjbbjjmjopofaaGreatNumLaw
import Derived.Test.YtdjbbjjmjopofaaGreatSgpLaw
import Derived.Test.YtdjbbjjmjopofaaGreatSortI
section
/- mult.areElements, has, power, Power: contracts. -/
namespace Go.Proofs.YtdjbbjjmjopofaaGreat
open Go Go.AM
set_option maxRecDepth 100000
variable {t : List (List Int)}
set_option maxHeartbeats 4000000 in
theorem areEl_k (t : List (List Int)) (l : List Int) (hl : l.length ≤ 140737488355328) : fnK TY SP Tryz.f151 [.ro (.rows .i64 t), .ro (.ints .i64 l)] (.bool (.v (decide (∀ x ∈ l, 0 ≤ x ∧ x < t.length)))) := rin_k t l hl
theorem areEl_fn (t : List (List Int)) (l : List Int) : QF 151 [.ro (.rows .i64 t), .ro (.ints .i64 l)] (.bool (.v (decide (∀ x ∈ l, 0 ≤ x ∧ x < t.length)))) := mkQ Tryz.func151 (by decide +kernel) rfl (Nat.le_of_ble_eq_true rfl) fun hf => areEl_k t l hf.2.1.1
theorem mhas_k (t : List (List Int)) (l : List Int) : fnK TY SP Tryz.f109 [.ro (.rows .i64 t), .ro (.ints .i64 l)] (.bool (.v (decide (∀ x ∈ l, 0 ≤ x ∧ x < t.length) && decide (validV t = 0)))) := by
  refine Or.inl (cq (areEl_fn t l) (And.intro rfl (And.intro rfl trivial)) ?_)
  refine And.intro (fun h1 => ?_) (fun h1 => ?_)
  · have h1 : decide (∀ x ∈ l, 0 ≤ x ∧ x < (t.length : Int)) = true := h1
    refine Or.inl (cq (mvalid_fn t) (And.intro rfl trivial) ?_)
    refine And.intro ?_ trivial
    show decide (validV t = 0) = (decide (∀ x ∈ l, 0 ≤ x ∧ x < (t.length : Int)) && decide (validV t = 0))
    rw [h1, Bool.true_and]
  · have h1 : decide (∀ x ∈ l, 0 ≤ x ∧ x < (t.length : Int)) = false := h1
    refine And.intro ?_ trivial
    show false = (decide (∀ x ∈ l, 0 ≤ x ∧ x < (t.length : Int)) && decide (validV t = 0))
    rw [h1, Bool.false_and]
theorem mhas_fn (t : List (List Int)) (l : List Int) : QF 109 [.ro (.rows .i64 t), .ro (.ints .i64 l)] (.bool (.v (decide (∀ x ∈ l, 0 ≤ x ∧ x < t.length) && decide (validV t = 0)))) := mkQ Tryz.func109 (by decide +kernel) rfl (Nat.le_of_ble_eq_true rfl) fun _ => mhas_k t l
theorem and_one : ∀ m : Fin 1001, andI .i64 ((m.1 : Nat) : Int) 1 = ((m.1 % 2 : Nat) : Int) := by decide +kernel
theorem shr_one (m : Nat) : shrI .i64 (m : Int) 1 = ((m / 2 : Nat) : Int) := by
  show (m : Int).fdiv (2 ^ 1) = _
  rw [Int.fdiv_eq_ediv_of_nonneg _ (by decide)]; omega
theorem pwN_sq (h : Semi t) {z : Nat} (hz : z < t.length) : ∀ j, pwN t (en t z z) j = pwN t z (2 * j + 1)
  | 0 => rfl
  | j + 1 => by
    show en t (pwN t (en t z z) j) (en t z z) = _
    rw [pwN_sq h hz j, show en t z z = pwN t z 1 from rfl, pwN_add h hz]
    exact congrArg _ (by omega)
/-- y times the m-th power of z. -/
def pwR (t : List (List Int)) (y z m : Nat) : Nat := if m = 0 then y else en t y (pwN t z (m - 1))
theorem pwR_odd (h : Semi t) {y z m : Nat} (hy : y < t.length) (hz : z < t.length) (hm : m % 2 = 1) : pwR t (en t y z) (en t z z) (m / 2) = pwR t y z m := by
  unfold pwR
  rw [if_neg (by omega : ¬ m = 0)]
  by_cases e : m / 2 = 0
  · rw [if_pos e, show m - 1 = 0 by omega]; rfl
  · rw [if_neg e, pwN_sq h hz, assoc3 h.assoc hy hz (pwN_lt h hz _), show z = pwN t z 0 from rfl]
    rw [show pwN t (pwN t z 0) (2 * (m / 2 - 1) + 1) = pwN t z (2 * (m / 2 - 1) + 1) from rfl, pwN_add h hz, show 0 + (2 * (m / 2 - 1) + 1) + 1 = m - 1 by omega]
    rfl
theorem pwR_even (h : Semi t) {y z m : Nat} (hz : z < t.length) (h0 : 0 < m) (hm : m % 2 = 0) : pwR t y (en t z z) (m / 2) = pwR t y z m := by
  unfold pwR
  rw [if_neg (by omega : ¬ m = 0), if_neg (by omega), pwN_sq h hz, show 2 * (m / 2 - 1) + 1 = m - 1 by omega]
theorem pwR_start (h : Semi t) {x : Nat} (hx : x < t.length) (k : Nat) : pwR t x x k = pwN t x k := by
  unfold pwR
  by_cases e : k = 0
  · subst e; rfl
  · rw [if_neg e]
    have := pwN_add h hx 0 (k - 1)
    rw [show 0 + (k - 1) + 1 = k by omega] at this; exact this
theorem mpow_k (t : List (List Int)) (x k : Nat) (h : Semi t) (hx : x < t.length) (hkb : k ≤ 1000) : fnK TY SP Tryz.f113 [.ro (.rows .i64 t), .int .i64 x, .int .i64 ((k : Int) + 1)] (.int .i64 (pwN t x k : Nat)) := by
  have hm := h.toSh.most
  refine And.intro (by omega) ?_
  refine Exists.intro [] <| lp (X := Nat × Nat × Nat) (fun s => [(7, .int .i64 s.1), (1, .int .i64 s.2.1), (2, .int .i64 s.2.2)]) (fun _ => []) (fun s => s.1 < t.length ∧ s.2.1 < t.length ∧ s.2.2 ≤ 1000 ∧ pwR t s.1 s.2.1 s.2.2 = pwN t x k) (fun s => s.2.2) (x, x, k) ⟨hx, hx, hkb, pwR_start h hx k⟩ (by repeat' first | refine And.intro ?_ ?_ | exact True.intro | exact (show (k : Int) + 1 - 1 = (k : Int) from by omega) | exact rfl | (refine Eq.trans ?_ rfl; omega)) ?_
  intro s ⟨hy, hz, hm', hv⟩
  have r1 := h.toSh.len hy
  have r2 := h.toSh.len hz
  have e1 := h.toSh.ent hy hz
  have e2 := h.toSh.ent hz hz
  have ha : andI .i64 (s.2.2 : Int) 1 = ((s.2.2 % 2 : Nat) : Int) := and_one ⟨s.2.2, by omega⟩
  have hsh := shr_one s.2.2
  refine And.intro (fun h1 => ?_) (fun h1 => ?_)
  · have h1 : (0 : Int) < (s.2.2 : Int) := h1
    have hd : s.2.2 / 2 < s.2.2 := by omega
    refine And.intro (fun h2 => ?_) (fun h2 => ?_)
    · have h2 : andI .i64 (s.2.2 : Int) 1 = 1 := h2
      have ho : s.2.2 % 2 = 1 := by rw [h2] at ha; omega
      refine And.intro (by omega) ?_
      refine And.intro (show 0 ≤ (s.2.1 : Int) ∧ (s.2.1 : Int) < ((t.getD s.1 []).length : Int) by omega) ?_
      refine And.intro (by omega) ?_
      refine And.intro (show 0 ≤ (s.2.1 : Int) ∧ (s.2.1 : Int) < ((t.getD s.2.1 []).length : Int) by omega) ?_
      refine And.intro (by omega) ?_
      refine Exists.intro (en t s.1 s.2.1, en t s.2.1 s.2.1, s.2.2 / 2) (And.intro ⟨⟨e1.2, e2.2, by show s.2.2 / 2 ≤ 1000; omega, (pwR_odd h hy hz ho).trans hv⟩, hd⟩ (by repeat' first | refine And.intro ?_ ?_ | exact True.intro | exact e1.1 | exact e2.1 | exact hsh | exact rfl))
    · have h2 : andI .i64 (s.2.2 : Int) 1 ≠ 1 := h2
      have ho : s.2.2 % 2 = 0 := by rw [ha] at h2; omega
      refine And.intro (by omega) ?_
      refine And.intro (show 0 ≤ (s.2.1 : Int) ∧ (s.2.1 : Int) < ((t.getD s.2.1 []).length : Int) by omega) ?_
      refine And.intro (by omega) ?_
      refine Exists.intro (s.1, en t s.2.1 s.2.1, s.2.2 / 2) (And.intro ⟨⟨hy, e2.2, by show s.2.2 / 2 ≤ 1000; omega, (pwR_even h hz (by omega) ho).trans hv⟩, hd⟩ (by repeat' first | refine And.intro ?_ ?_ | exact True.intro | exact e1.1 | exact e2.1 | exact hsh | exact rfl))
  · have h1 : (s.2.2 : Int) ≤ 0 := h1
    refine And.intro ?_ trivial
    show (s.1 : Int) = (pwN t x k : Nat)
    rw [← hv]; unfold pwR; rw [if_pos (by omega)]
theorem mpow_fn (t : List (List Int)) (x k : Nat) (h : Semi t) (hx : x < t.length) (hkb : k ≤ 1000) : QF 113 [.ro (.rows .i64 t), .int .i64 x, .int .i64 ((k : Int) + 1)] (.int .i64 (pwN t x k : Nat)) := mkQ Tryz.func113 (by decide +kernel) rfl (Nat.le_of_ble_eq_true rfl) fun _ => mpow_k t x k h hx hkb
theorem mPower_k (t : List (List Int)) (x k : Nat) (h : Semi t) (hx : x < t.length) (hkb : k ≤ 1000) : fnK TY SP Tryz.f61 [.ro (.rows .i64 t), .int .i64 x, .int .i64 ((k : Int) + 1)] (.int .i64 (pwN t x k : Nat)) := by
  have hh : (decide (∀ y ∈ [(x : Int)], 0 ≤ y ∧ y < (t.length : Int)) && decide (validV t = 0)) = true := by
    rw [decide_eq_true (p := ∀ y ∈ [(x : Int)], 0 ≤ y ∧ y < (t.length : Int)) (fun y hy => by rw [List.mem_singleton] at hy; omega), decide_eq_true (valid_zero.2 h)]; rfl
  refine And.intro (fun h1 => absurd (show (k : Int) + 1 < 1 from h1) (by omega)) (fun _ => ?_)
  refine Or.inl (cq (mhas_fn t [(x : Int)]) (And.intro rfl (And.intro rfl trivial)) ?_)
  refine And.intro (fun h2 => ?_) (fun _ => ?_)
  · have h2 : (!(decide (∀ y ∈ [(x : Int)], 0 ≤ y ∧ y < (t.length : Int)) && decide (validV t = 0))) = true := h2
    rw [hh] at h2; cases h2
  · exact Or.inl (cq (mpow_fn t x k h hx hkb) (And.intro rfl (And.intro rfl (And.intro rfl trivial))) (And.intro rfl trivial))
theorem mPower_fn (t : List (List Int)) (x k : Nat) (h : Semi t) (hx : x < t.length) (hkb : k ≤ 1000) : QF 61 [.ro (.rows .i64 t), .int .i64 x, .int .i64 ((k : Int) + 1)] (.int .i64 (pwN t x k : Nat)) := mkQ Tryz.func61 (by decide +kernel) rfl (Nat.le_of_ble_eq_true rfl) fun _ => mPower_k t x k h hx hkb
end Go.Proofs.YtdjbbjjmjopofaaGreat
end
section
/- mult.Identity: contract. -/
namespace Go.Proofs.YtdjbbjjmjopofaaGreat
open Go Go.AM
set_option maxRecDepth 100000
variable {t : List (List Int)}
noncomputable def idnB (t : List (List Int)) (x : Int) : Bool := open Classical in decide (∀ y, y < t.length → en t x.toNat y = y ∧ en t y x.toNat = y)
theorem idnC_k (t : List (List Int)) (h : Sh t) (x : Int) (hx : 0 ≤ x) (hxt : x < t.length) :
    fnMK TY SP Tryz.f117 [.int .i64 x, .ptr 1000 0] [(1000, .box [.ro (.rows .i64 t)])] (.bool (.v (idnB t x))) [(1000, .box [.ro (.rows .i64 t)])] := by
  have hm := h.most
  have hxn : x.toNat < t.length := by omega
  refine Exists.intro [] <| lp (X := Nat) (fun y => [(7, .int .i64 y)]) (fun _ => []) (fun y => y ≤ t.length ∧ ∀ k, k < y → en t x.toNat k = k ∧ en t k x.toNat = k) (fun y => t.length - y) 0 ⟨Nat.zero_le _, fun k hk => absurd hk (Nat.not_lt_zero _)⟩ (by repeat' first | refine And.intro ?_ ?_ | exact True.intro | (show (_ : Int) = (_ : Int); omega) | omega | exact rfl | (simp only [RO.len]; omega)) ?_
  intro y ⟨hy, hn⟩
  refine And.intro (fun h1 => ?_) (fun h1 => ?_)
  · have h1 : (y : Int) < (t.length : Int) := h1
    have hyl : y < t.length := by omega
    have e1 := h.ent hxn hyl
    have e2 := h.ent hyl hxn
    have r1 := h.len hxn
    have r2 := h.len hyl
    have no : ¬ (en t x.toNat y = y ∧ en t y x.toNat = y) → false = idnB t x := fun hh => by
      unfold idnB; symm; rw [decide_eq_false_iff_not]; exact fun H => hh (H y hyl)
    refine And.intro (by omega) ?_
    refine And.intro (by omega) ?_
    refine And.intro (fun h2 => ?_) (fun h2 => ?_)
    · have h2 : (t.getD x.toNat []).getD y 0 ≠ (y : Int) := h2
      rw [e1.1] at h2
      refine And.intro (by repeat' first | refine And.intro ?_ ?_ | exact True.intro | (show (_ : Int) = (_ : Int); omega) | omega | exact rfl | (simp only [RO.len]; omega)) ?_
      exact no fun hh => h2 (by rw [hh.1])
    · have h2 : (t.getD x.toNat []).getD y 0 = (y : Int) := h2
      rw [e1.1] at h2
      refine And.intro (by omega) ?_
      refine And.intro (show 0 ≤ x ∧ x < ((t.getD y []).length : Int) by omega) ?_
      refine And.intro (fun h3 => ?_) (fun h3 => ?_)
      · have h3 : (t.getD y []).getD x.toNat 0 ≠ (y : Int) := h3
        rw [e2.1] at h3
        refine And.intro (by repeat' first | refine And.intro ?_ ?_ | exact True.intro | (show (_ : Int) = (_ : Int); omega) | omega | exact rfl | (simp only [RO.len]; omega)) ?_
        exact no fun hh => h3 (by rw [hh.2])
      · have h3 : (t.getD y []).getD x.toNat 0 = (y : Int) := h3
        rw [e2.1] at h3
        refine And.intro (by omega) ?_
        refine nx (y + 1) ⟨by omega, fun k hk => ?_⟩ (show t.length - (y + 1) < t.length - y by omega) (by repeat' first | refine And.intro ?_ ?_ | exact True.intro | (show (_ : Int) = (_ : Int); omega) | omega | exact rfl | (simp only [RO.len]; omega))
        by_cases e : k = y
        · subst e; exact ⟨by omega, by omega⟩
        · exact hn k (by omega)
  · have h1 : (t.length : Int) ≤ (y : Int) := h1
    refine And.intro (by repeat' first | refine And.intro ?_ ?_ | exact True.intro | (show (_ : Int) = (_ : Int); omega) | omega | exact rfl | (simp only [RO.len]; omega)) ?_
    show true = idnB t x
    unfold idnB; symm; rw [decide_eq_true_iff]
    exact fun k hk => hn k (by omega)
theorem idnC_fn (t : List (List Int)) (h : Sh t) (x : Int) (hx : 0 ≤ x) (hxt : x < t.length) : MF 117 [.int .i64 x, .ptr 1000 0] [(1000, .box [.ro (.rows .i64 t)])] (.bool (.v (idnB t x))) [(1000, .box [.ro (.rows .i64 t)])] :=
  mkM Tryz.func117 (by decide +kernel) rfl (Nat.le_of_ble_eq_true rfl) fun _ => idnC_k t h x hx hxt
theorem idxIdn_k (t : List (List Int)) (h : Sh t) (l : List Int) (hl : ∀ x ∈ l, 0 ≤ x ∧ x < (t.length : Int)) (hll : l.length ≤ 400) :
    fnMK TY SP Tryz.f115 [.ro (.ints .i64 l), .fn 117 [.ptr 1000 0]] [(1000, .box [.ro (.rows .i64 t)])] (.int .i64 (idxF (idnB t) l)) [(1000, .box [.ro (.rows .i64 t)])] := by
  refine Exists.intro [] <| lp (X := Nat) (fun y => [(8, .int .i64 y)]) (fun _ => []) (fun y => y ≤ l.length ∧ ∀ k, k < y → idnB t (l.getD k 0) = false) (fun y => l.length - y) 0 ⟨Nat.zero_le _, fun k hk => absurd hk (Nat.not_lt_zero _)⟩ (by repeat' first | refine And.intro ?_ ?_ | exact True.intro | (show (_ : Int) = (_ : Int); omega) | omega | exact rfl | (simp only [RO.len]; omega)) ?_
  rintro y ⟨hy, hn⟩
  refine And.intro (fun h1 => ?_) (fun h1 => ?_)
  · have h1 : (y : Int) < (l.length : Int) := h1
    have hyl : y < l.length := by omega
    have hm := hl _ (getD_mem (d := 0) hyl)
    refine And.intro (by omega) ?_
    refine Or.inr (cm [] [(1000, 1000)] (idnC_fn t h (l.getD y 0) hm.1 hm.2) ?_)
    refine And.intro (by repeat' first | refine And.intro ?_ ?_ | exact True.intro | (show (_ : Int) = (_ : Int); omega) | omega | exact rfl | (simp only [RO.len]; omega)) ?_
    refine And.intro (fun h2 => ?_) (fun h2 => ?_)
    · have h2 : idnB t (l.getD y 0) = true := h2
      refine And.intro (by repeat' first | refine And.intro ?_ ?_ | exact True.intro | (show (_ : Int) = (_ : Int); omega) | omega | exact rfl | (simp only [RO.len]; omega)) ?_
      show (y : Int) = idxF (idnB t) l
      exact (idxF_here hyl hn h2).symm
    · have h2 : idnB t (l.getD y 0) = false := h2
      refine And.intro (by omega) ?_
      refine nx (y + 1) ⟨by omega, fun k hk => ?_⟩ (show l.length - (y + 1) < l.length - y by omega) (by repeat' first | refine And.intro ?_ ?_ | exact True.intro | (show (_ : Int) = (_ : Int); omega) | omega | exact rfl | (simp only [RO.len]; omega))
      by_cases e : k = y
      · rw [e]; exact h2
      · exact hn k (by omega)
  · have h1 : (l.length : Int) ≤ (y : Int) := h1
    refine And.intro (by repeat' first | refine And.intro ?_ ?_ | exact True.intro | (show (_ : Int) = (_ : Int); omega) | omega | exact rfl | (simp only [RO.len]; omega)) ?_
    show (-1 : Int) = idxF (idnB t) l
    exact (idxF_no fun k hk => hn k (by omega)).symm
theorem idxIdn_fn (t : List (List Int)) (h : Sh t) (l : List Int) (hl : ∀ x ∈ l, 0 ≤ x ∧ x < (t.length : Int)) (hll : l.length ≤ 400) :
    MF 115 [.ro (.ints .i64 l), .fn 117 [.ptr 1000 0]] [(1000, .box [.ro (.rows .i64 t)])] (.int .i64 (idxF (idnB t) l)) [(1000, .box [.ro (.rows .i64 t)])] :=
  mkM Tryz.func115 (by decide +kernel) rfl (Nat.le_of_ble_eq_true rfl) fun _ => idxIdn_k t h l hl hll
theorem idx_one (h : Grp t) : idxF (idnB t) (elemsL t.length) = (oneN t : Nat) := by
  have h1 := h.one
  have hg : ∀ k, k < t.length → (elemsL t.length).getD k 0 = (k : Int) := fun k hk => by simp [elemsL, List.getD, hk]
  have hlen : (elemsL t.length).length = t.length := by simp [elemsL]
  have hb : ∀ k, k < t.length → (idnB t ((elemsL t.length).getD k 0) = true ↔ k = oneN t) := fun k hk => by
    rw [hg k hk]; unfold idnB; rw [decide_eq_true_iff, Int.toNat_natCast]
    constructor
    · intro H
      have a := (H _ h1.1).1
      have b := (h1.2.1 k hk).2
      omega
    · intro e y hy
      subst e; exact h1.2.1 y hy
  refine idxF_here (by rw [hlen]; exact h1.1) (fun k hk => Bool.eq_false_iff.2 fun hh => ?_) ((hb _ h1.1).2 rfl)
  have := (hb k (by have := h1.1; omega)).1 hh; omega
theorem mIdn_k (t : List (List Int)) (h : Grp t) : fnK TY SP Tryz.f62 [.ro (.rows .i64 t)] (.int .i64 (oneN t : Nat)) := by
  have hs := h.toSh
  have hm := hs.most
  have hel : ∀ x ∈ elemsL t.length, 0 ≤ x ∧ x < (t.length : Int) := fun x hx => by
    obtain ⟨k, hk, rfl⟩ := List.mem_map.1 hx
    have := List.mem_range.1 hk; omega
  refine Or.inl (cq (mvalid_fn t) (And.intro rfl trivial) ?_)
  refine And.intro (fun h1 => ?_) (fun _ => ?_)
  · have h1 : (!decide (validV t = 0)) = true := h1
    rw [decide_eq_true (valid_zero.2 h.toSemi)] at h1; cases h1
  refine Or.inl (cq (elems_fn t hm) (And.intro rfl trivial) ?_)
  refine Or.inr (Or.inl (cm [7] [(1000, 1)] (idxIdn_fn t hs (elemsL t.length) hel (by simp [elemsL]; omega)) ?_))
  rw [idx_one h]
  refine And.intro (by repeat' first | refine And.intro ?_ ?_ | exact True.intro | (show (_ : Int) = (_ : Int); omega) | omega | exact rfl | (simp only [RO.len]; omega)) ?_
  exact And.intro (by first | rfl | (show (_ : Int) = (_ : Int); rfl)) trivial
theorem mIdn_fn (t : List (List Int)) (h : Grp t) : QF 62 [.ro (.rows .i64 t)] (.int .i64 (oneN t : Nat)) := mkQ Tryz.func62 (by decide +kernel) rfl (Nat.le_of_ble_eq_true rfl) fun _ => mIdn_k t h
end Go.Proofs.YtdjbbjjmjopofaaGreat
end
section
/- mult's closure: newClosure, add: contracts. -/
namespace Go.Proofs.YtdjbbjjmjopofaaGreat
open Go Go.AM
set_option maxRecDepth 100000
variable {t : List (List Int)}
theorem newClo_k (t : List (List Int)) (h : Semi t) : fnMK TY SP Tryz.f110 [.ro (.rows .i64 t)] [] (.ptr 8 0) [(6, .vec 0 (.bools (List.replicate t.length false)) []), (8, .box [.ro (.rows .i64 t), .nils, .vec 6, .nils])] := by
  have hm := h.toSh.most
  refine And.intro (by omega) ?_
  refine And.intro (by omega) ?_
  refine And.intro ?_ (And.intro (by omega) (And.intro (by omega) (And.intro trivial trivial)))
  repeat' first | refine And.intro ?_ ?_ | exact True.intro | exact rfl | omega | (simp; done)
/-- The closure's list and marks with one element more. -/
def addS (s : List Bool × List Int) (x : Nat) : List Bool × List Int := if s.1.getD x false = true then s else (s.1.set x true, s.2 ++ [(x : Int)])
theorem madd_k (t : List (List Int)) (u : List Int) (I : List Bool) (R : List Int) (x : Nat) (hI : I.length = t.length) (hx : x < t.length) (hm : t.length ≤ 400) (hR : R.length ≤ 400) : fnMK TY SP Tryz.f152 [.ptr 1000 0, .int .i64 x] [(1000, .box [.ro (.rows .i64 t), .vec 1001, .vec 1002, .vec 503]), (1001, .vec 0 (.ints .i64 u) []), (1002, .vec 0 (.bools I) []), (503, .vec 0 (.ints .i64 R) [])] (.tup [])
    [(1000, .box [.ro (.rows .i64 t), .vec 1001, .vec 1002, .vec 503]), (1001, .vec 0 (.ints .i64 u) []), (1002, .vec 0 (.bools (addS (I, R) x).1) []), (503, .vec 0 (.ints .i64 (addS (I, R) x).2) [])] := by
  refine And.intro (by omega) ?_
  refine And.intro (fun h1 => ?_) (fun h1 => ?_)
  · have h1 : (!I.getD x false) = true := h1
    have h1 : I.getD x false = false := by revert h1; cases I.getD x false <;> simp
    have e : addS (I, R) x = (I.set x true, R ++ [(x : Int)]) := if_neg (by rw [h1]; decide)
    rw [e]
    refine And.intro (by omega) ?_
    refine And.intro (by omega) ?_
    refine And.intro (by rw [List.length_append, List.length_singleton]; omega) ?_
    refine And.intro ?_ trivial
    repeat' first | refine And.intro ?_ ?_ | exact True.intro | exact rfl | omega | (simp only [RO.len]; omega)
  · have h1 : (!I.getD x false) = false := h1
    have h1 : I.getD x false = true := by revert h1; cases I.getD x false <;> simp
    have e : addS (I, R) x = (I, R) := if_pos h1
    rw [e]
    refine And.intro ?_ trivial
    repeat' first | refine And.intro ?_ ?_ | exact True.intro | exact rfl | omega | (simp only [RO.len]; omega)
theorem madd0_k (t : List (List Int)) (u : List Int) (I : List Bool) (x : Nat) (hI : I.length = t.length) (hx : x < t.length) (hm : t.length ≤ 400) (h0 : I.getD x false = false) : fnMK TY SP Tryz.f152 [.ptr 1000 0, .int .i64 x] [(1000, .box [.ro (.rows .i64 t), .vec 1001, .vec 1002, .nils]), (1001, .vec 0 (.ints .i64 u) []), (1002, .vec 0 (.bools I) [])] (.tup [])
    [(25, .vec 0 (.ints .i64 [(x : Int)]) []), (1000, .box [.ro (.rows .i64 t), .vec 1001, .vec 1002, .vec 25]), (1001, .vec 0 (.ints .i64 u) []), (1002, .vec 0 (.bools (I.set x true)) [])] := by
  refine And.intro (by omega) ?_
  refine And.intro (fun h1 => ?_) (fun h1 => ?_)
  · refine And.intro (by omega) ?_
    refine And.intro (by omega) ?_
    refine And.intro (by simp) ?_
    repeat' first | refine And.intro ?_ ?_ | exact True.intro | exact rfl | omega | (simp only [RO.len]; omega) | (simp; done)
  · have h1 : (!I.getD x false) = false := h1
    rw [h0] at h1; cases h1
theorem newClo_fn (t : List (List Int)) (h : Semi t) : MF 110 [.ro (.rows .i64 t)] [] (.ptr 8 0) [(6, .vec 0 (.bools (List.replicate t.length false)) []), (8, .box [.ro (.rows .i64 t), .nils, .vec 6, .nils])] := mkM Tryz.func110 (by decide +kernel) rfl (Nat.le_of_ble_eq_true rfl) fun _ => newClo_k t h
theorem madd_fn (t : List (List Int)) (u : List Int) (I : List Bool) (R : List Int) (x : Nat) (hI : I.length = t.length) (hx : x < t.length) (hm : t.length ≤ 400) (hR : R.length ≤ 400) : MF 152 [.ptr 1000 0, .int .i64 x] [(1000, .box [.ro (.rows .i64 t), .vec 1001, .vec 1002, .vec 503]), (1001, .vec 0 (.ints .i64 u) []), (1002, .vec 0 (.bools I) []), (503, .vec 0 (.ints .i64 R) [])] (.tup [])
    [(1000, .box [.ro (.rows .i64 t), .vec 1001, .vec 1002, .vec 503]), (1001, .vec 0 (.ints .i64 u) []), (1002, .vec 0 (.bools (addS (I, R) x).1) []), (503, .vec 0 (.ints .i64 (addS (I, R) x).2) [])] := mkM Tryz.func152 (by decide +kernel) rfl (Nat.le_of_ble_eq_true rfl) fun _ => madd_k t u I R x hI hx hm hR
theorem madd0_fn (t : List (List Int)) (u : List Int) (I : List Bool) (x : Nat) (hI : I.length = t.length) (hx : x < t.length) (hm : t.length ≤ 400) (h0 : I.getD x false = false) : MF 152 [.ptr 1000 0, .int .i64 x] [(1000, .box [.ro (.rows .i64 t), .vec 1001, .vec 1002, .nils]), (1001, .vec 0 (.ints .i64 u) []), (1002, .vec 0 (.bools I) [])] (.tup [])
    [(25, .vec 0 (.ints .i64 [(x : Int)]) []), (1000, .box [.ro (.rows .i64 t), .vec 1001, .vec 1002, .vec 25]), (1001, .vec 0 (.ints .i64 u) []), (1002, .vec 0 (.bools (I.set x true)) [])] := mkM Tryz.func152 (by decide +kernel) rfl (Nat.le_of_ble_eq_true rfl) fun _ => madd0_k t u I x hI hx hm h0
end Go.Proofs.YtdjbbjjmjopofaaGreat
end
section
/- mult's closure: generator (a further one). -/
namespace Go.Proofs.YtdjbbjjmjopofaaGreat
open Go Go.AM
set_option maxRecDepth 100000
variable {t : List (List Int)}
/-- All products of a with what is used. -/
def rowS (t : List (List Int)) (a : Nat) (u : List Int) (s : List Bool × List Int) : List Bool × List Int := u.foldl (fun s y => addS s (en t a y.toNat)) s
/-- The walk over the list, from place i on. -/
def rnS (t : List (List Int)) (u : List Int) (old x : Nat) : Nat → Nat → List Bool × List Int → List Bool × List Int
  | 0, _, s => s
  | f + 1, i, s => if i < s.2.length then rnS t u old x f (i + 1) (if i < old then addS s (en t (s.2.getD i 0).toNat x) else rowS t (s.2.getD i 0).toNat u s) else s
def gnS (t : List (List Int)) (u : List Int) (s : List Bool × List Int) (x : Nat) : List Bool × List Int := rnS t (u ++ [(x : Int)]) s.2.length x (t.length + 1) 0 (addS s x)
theorem addS_col {n : Nat} {s : List Bool × List Int} {g : Nat} (h : ColI n s.1 s.2) (hg : g < n) : ColI n (addS s g).1 (addS s g).2 := by
  unfold addS
  split
  · exact h
  · rename_i e; exact h.push hg (Bool.eq_false_iff.2 e)
theorem addS_get {s : List Bool × List Int} {g i : Nat} (hi : i < s.2.length) : i < (addS s g).2.length ∧ (addS s g).2.getD i 0 = s.2.getD i 0 := by
  unfold addS
  split
  · exact ⟨hi, rfl⟩
  · exact ⟨by show i < (s.2 ++ _).length; rw [List.length_append]; omega, getD_appl hi⟩
theorem rowS_snoc (t : List (List Int)) (a : Nat) (u : List Int) (y : Int) (s : List Bool × List Int) : rowS t a (u ++ [y]) s = addS (rowS t a u s) (en t a y.toNat) := by
  unfold rowS; rw [List.foldl_append]; rfl
theorem mgen_k (t : List (List Int)) (u : List Int) (I : List Bool) (R : List Int) (x : Nat) (h : Semi t) (hc : ColI t.length I R) (hx : x < t.length) (hu : u.length ≤ 400) (hui : ∀ y ∈ u, 0 ≤ y ∧ y < (t.length : Int)) (h0 : I.getD x false = false) : fnMK TY SP Tryz.f111 [.ptr 1000 0, .int .i64 x] [(1000, .box [.ro (.rows .i64 t), .vec 501, .vec 1002, .vec 503]), (501, .vec 0 (.ints .i64 u) []), (1002, .vec 0 (.bools I) []), (503, .vec 0 (.ints .i64 R) [])] (.tup [])
    [(1000, .box [.ro (.rows .i64 t), .vec 501, .vec 1002, .vec 503]), (501, .vec 0 (.ints .i64 (u ++ [(x : Int)])) []), (1002, .vec 0 (.bools (gnS t u (I, R) x).1) []), (503, .vec 0 (.ints .i64 (gnS t u (I, R) x).2) [])] := by
  have hm := h.toSh.most
  have hcl := hc.le
  have hIl := hc.len
  have hui' : ∀ y ∈ u ++ [(x : Int)], 0 ≤ y ∧ y < (t.length : Int) := fun y hy => by
    rcases List.mem_append.1 hy with hy | hy
    · exact hui y hy
    · rw [List.mem_singleton] at hy; omega
  have hul : (u ++ [(x : Int)]).length = u.length + 1 := by rw [List.length_append]; rfl
  refine And.intro (by omega) ?_
  refine And.intro (fun h1 => ?_) (fun _ => ?_)
  · have h1 : I.getD x false = true := h1
    rw [h0] at h1; cases h1
  refine And.intro (by omega) ?_
  refine Or.inr (Or.inl (cm [] [(1000, 1000), (1001, 501), (1002, 1002), (503, 503)] (madd_fn t (u ++ [(x : Int)]) I R x hIl hx hm (by omega)) ?_))
  refine And.intro (by repeat' first | refine And.intro ?_ ?_ | exact True.intro | (show (_ : Int) = (_ : Int); omega) | omega | exact rfl | (simp only [RO.len]; omega)) ?_
  refine Exists.intro [] <| lp (X := Nat × List Bool × List Int) (fun s => [(5, .int .i64 s.1)]) (fun s => [(1002, .vec 0 (.bools s.2.1) []), (503, .vec 0 (.ints .i64 s.2.2) [])]) (fun s => s.1 ≤ s.2.2.length ∧ ColI t.length s.2.1 s.2.2 ∧ rnS t (u ++ [(x : Int)]) R.length x (t.length + 1 - s.1) s.1 s.2 = gnS t u (I, R) x) (fun s => t.length - s.1) (0, (addS (I, R) x).1, (addS (I, R) x).2) ⟨Nat.zero_le _, addS_col (s := (I, R)) hc hx, rfl⟩ (by repeat' first | refine And.intro ?_ ?_ | exact True.intro | (show (_ : Int) = (_ : Int); omega) | omega | exact rfl | (simp only [RO.len]; omega)) ?_
  intro s ⟨hi, hs, hv⟩
  have hsl := hs.le
  have hsI := hs.len
  refine And.intro (fun h1 => ?_) (fun h1 => ?_)
  · have h1 : (s.1 : Int) < (s.2.2.length : Int) := h1
    have hil : s.1 < s.2.2.length := by omega
    have hr := hs.ins _ (getD_mem (d := 0) hil)
    have hrl : (s.2.2.getD s.1 0).toNat < t.length := by omega
    have r1 := h.toSh.len hrl
    rw [show t.length + 1 - s.1 = (t.length - s.1) + 1 by omega] at hv
    have hv : rnS t (u ++ [(x : Int)]) R.length x (t.length + 1 - (s.1 + 1)) (s.1 + 1) (if s.1 < R.length then addS s.2 (en t (s.2.2.getD s.1 0).toNat x) else rowS t (s.2.2.getD s.1 0).toNat (u ++ [(x : Int)]) s.2) = gnS t u (I, R) x := by
      rw [← hv, show t.length + 1 - (s.1 + 1) = t.length - s.1 by omega]
      rw [rnS.eq_2, if_pos hil]
    refine And.intro (fun h2 => ?_) (fun h2 => ?_)
    · have h2 : (s.1 : Int) < (R.length : Int) := h2
      have e1 := h.toSh.ent hrl hx
      rw [if_pos (by omega)] at hv
      have hg := addS_get (s := s.2) (g := en t (s.2.2.getD s.1 0).toNat x) hil
      refine Or.inl ?_
      refine Exists.intro [false, false, false, false, false, false, false, false, false, false, false, false, false, false, false, false, false, true] (And.intro (by decide +kernel) ?_)
      refine And.intro (by omega) ?_
      refine And.intro (show 0 ≤ s.2.2.getD s.1 0 ∧ s.2.2.getD s.1 0 < (t.length : Int) by omega) ?_
      refine And.intro (show 0 ≤ (x : Int) ∧ (x : Int) < ((t.getD (s.2.2.getD s.1 0).toNat []).length : Int) by omega) ?_
      refine Or.inr (Or.inl (cm [] [(1000, 1000), (1001, 501), (1002, 1002), (503, 503)] (madd_fn t (u ++ [(x : Int)]) s.2.1 s.2.2 (en t (s.2.2.getD s.1 0).toNat x) hsI e1.2 hm (by omega)) ?_))
      refine And.intro (by repeat' first | refine And.intro ?_ ?_ | exact True.intro | exact e1.1 | exact rfl | omega) ?_
      refine And.intro (by omega) ?_
      exact Exists.intro (s.1 + 1, addS s.2 (en t (s.2.2.getD s.1 0).toNat x)) (And.intro ⟨⟨by show s.1 + 1 ≤ (addS s.2 (en t (s.2.2.getD s.1 0).toNat x)).2.length; omega, addS_col hs e1.2, hv⟩, by show t.length - (s.1 + 1) < t.length - s.1; omega⟩ (by repeat' first | refine And.intro ?_ ?_ | exact True.intro | (show (_ : Int) = (_ : Int); omega) | omega | exact rfl | (simp only [RO.len]; omega)))
    · have h2 : (R.length : Int) ≤ (s.1 : Int) := h2
      rw [if_neg (by omega)] at hv
      refine Exists.intro [37] <| lp (X := Nat × List Bool × List Int) (fun z => [(68, .int .i64 z.1)]) (fun z => [(1002, .vec 0 (.bools z.2.1) []), (503, .vec 0 (.ints .i64 z.2.2) [])]) (fun z => z.1 ≤ (u ++ [(x : Int)]).length ∧ ColI t.length z.2.1 z.2.2 ∧ (s.1 < z.2.2.length ∧ z.2.2.getD s.1 0 = s.2.2.getD s.1 0) ∧ z.2 = rowS t (s.2.2.getD s.1 0).toNat ((u ++ [(x : Int)]).take z.1) s.2) (fun z => (u ++ [(x : Int)]).length - z.1) (0, s.2.1, s.2.2) ⟨Nat.zero_le _, hs, ⟨hil, rfl⟩, by rw [List.take_zero]; rfl⟩ (by repeat' first | refine And.intro ?_ ?_ | exact True.intro | (show (_ : Int) = (_ : Int); omega) | omega | exact rfl | (simp only [RO.len]; omega)) ?_
      intro z ⟨hz1, hz2, hz3, hz4⟩
      have hzl := hz2.le
      have hzI := hz2.len
      refine And.intro (fun h3 => ?_) (fun h3 => ?_)
      · have h3 : (z.1 : Int) < ((u ++ [(x : Int)]).length : Int) := h3
        have hzu : z.1 < (u ++ [(x : Int)]).length := by omega
        have hy := hui' _ (getD_mem (d := 0) hzu)
        have hyl : ((u ++ [(x : Int)]).getD z.1 0).toNat < t.length := by omega
        have e1 := h.toSh.ent hrl hyl
        have e1' : (t.getD (z.2.2.getD s.1 0).toNat []).getD ((u ++ [(x : Int)]).getD z.1 0).toNat 0 = ((en t (s.2.2.getD s.1 0).toNat ((u ++ [(x : Int)]).getD z.1 0).toNat : Nat) : Int) := by rw [hz3.2]; exact e1.1
        have hg := addS_get (s := z.2) (g := en t (s.2.2.getD s.1 0).toNat ((u ++ [(x : Int)]).getD z.1 0).toNat) hz3.1
        refine And.intro (by omega) ?_
        refine Or.inl ?_
        refine Exists.intro [false, false, false, false, false, false, false, false, false, false, false, false, false, false, false, false, false, true] (And.intro (by decide +kernel) ?_)
        refine And.intro (show 0 ≤ (s.1 : Int) ∧ (s.1 : Int) < (z.2.2.length : Int) by omega) ?_
        refine And.intro (show 0 ≤ z.2.2.getD s.1 0 ∧ z.2.2.getD s.1 0 < (t.length : Int) by omega) ?_
        refine And.intro (show 0 ≤ (u ++ [(x : Int)]).getD z.1 0 ∧ (u ++ [(x : Int)]).getD z.1 0 < ((t.getD (z.2.2.getD s.1 0).toNat []).length : Int) by rw [hz3.2]; omega) ?_
        refine Or.inr (Or.inl (cm [] [(1000, 1000), (1001, 501), (1002, 1002), (503, 503)] (madd_fn t (u ++ [(x : Int)]) z.2.1 z.2.2 (en t (s.2.2.getD s.1 0).toNat ((u ++ [(x : Int)]).getD z.1 0).toNat) hzI e1.2 hm (by omega)) ?_))
        refine And.intro (by repeat' first | refine And.intro ?_ ?_ | exact True.intro | exact e1' | exact rfl | omega) ?_
        refine And.intro (by omega) ?_
        refine Exists.intro (z.1 + 1, addS z.2 (en t (s.2.2.getD s.1 0).toNat ((u ++ [(x : Int)]).getD z.1 0).toNat)) (And.intro ⟨⟨by show z.1 + 1 ≤ _; omega, addS_col hz2 e1.2, ⟨hg.1, hg.2.trans hz3.2⟩, ?_⟩, by show (u ++ [(x : Int)]).length - (z.1 + 1) < (u ++ [(x : Int)]).length - z.1; omega⟩ (by repeat' first | refine And.intro ?_ ?_ | exact True.intro | (show (_ : Int) = (_ : Int); omega) | omega | exact rfl | (simp only [RO.len]; omega)))
        rw [List.take_add_one, List.getElem?_eq_getElem hzu, show (some (u ++ [(x : Int)])[z.1]).toList = [(u ++ [(x : Int)])[z.1]] from rfl, rowS_snoc, ← hz4, show (u ++ [(x : Int)])[z.1] = (u ++ [(x : Int)]).getD z.1 0 by rw [List.getD_eq_getElem?_getD, List.getElem?_eq_getElem hzu]; rfl]
      · have h3 : ((u ++ [(x : Int)]).length : Int) ≤ (z.1 : Int) := h3
        rw [List.take_of_length_le (by omega)] at hz4
        rw [← hz4] at hv
        refine And.intro (by omega) ?_
        exact Exists.intro (s.1 + 1, z.2) (And.intro ⟨⟨by show s.1 + 1 ≤ z.2.2.length; omega, hz2, hv⟩, by show t.length - (s.1 + 1) < t.length - s.1; omega⟩ (by repeat' first | refine And.intro ?_ ?_ | exact True.intro | (show (_ : Int) = (_ : Int); omega) | omega | exact rfl | (simp only [RO.len]; omega)))
  · have h1 : (s.2.2.length : Int) ≤ (s.1 : Int) := h1
    have hz : gnS t u (I, R) x = s.2 := by
      rw [← hv, show t.length + 1 - s.1 = (t.length - s.1) + 1 by omega, rnS.eq_2, if_neg (by omega)]
    rw [hz]
    refine And.intro ?_ trivial
    repeat' first | refine And.intro ?_ ?_ | exact True.intro | exact rfl | omega | (simp only [RO.len]; omega)
theorem mgen_fn (t : List (List Int)) (u : List Int) (I : List Bool) (R : List Int) (x : Nat) (h : Semi t) (hc : ColI t.length I R) (hx : x < t.length) (hu : u.length ≤ 400) (hui : ∀ y ∈ u, 0 ≤ y ∧ y < (t.length : Int)) (h0 : I.getD x false = false) : MF 111 [.ptr 1000 0, .int .i64 x] [(1000, .box [.ro (.rows .i64 t), .vec 501, .vec 1002, .vec 503]), (501, .vec 0 (.ints .i64 u) []), (1002, .vec 0 (.bools I) []), (503, .vec 0 (.ints .i64 R) [])] (.tup [])
    [(1000, .box [.ro (.rows .i64 t), .vec 501, .vec 1002, .vec 503]), (501, .vec 0 (.ints .i64 (u ++ [(x : Int)])) []), (1002, .vec 0 (.bools (gnS t u (I, R) x).1) []), (503, .vec 0 (.ints .i64 (gnS t u (I, R) x).2) [])] := mkM Tryz.func111 (by decide +kernel) rfl (Nat.le_of_ble_eq_true rfl) fun _ => mgen_k t u I R x h hc hx hu hui h0
theorem mgenN_k (t : List (List Int)) (u : List Int) (I : List Bool) (R : List Int) (x : Nat) (hI : I.length = t.length) (hx : x < t.length) (h0 : I.getD x false = true) : fnMK TY SP Tryz.f111 [.ptr 1000 0, .int .i64 x] [(1000, .box [.ro (.rows .i64 t), .vec 1001, .vec 1002, .vec 1003]), (1001, .vec 0 (.ints .i64 u) []), (1002, .vec 0 (.bools I) []), (1003, .vec 0 (.ints .i64 R) [])] (.tup []) [(1000, .box [.ro (.rows .i64 t), .vec 1001, .vec 1002, .vec 1003]), (1001, .vec 0 (.ints .i64 u) []), (1002, .vec 0 (.bools I) []), (1003, .vec 0 (.ints .i64 R) [])] := by
  refine And.intro (by omega) ?_
  refine And.intro (fun _ => ?_) (fun h1 => ?_)
  · refine And.intro ?_ trivial
    repeat' first | refine And.intro ?_ ?_ | exact True.intro | exact rfl | omega
  · have h1 : I.getD x false = false := h1
    rw [h0] at h1; cases h1
theorem mgenN_fn (t : List (List Int)) (u : List Int) (I : List Bool) (R : List Int) (x : Nat) (hI : I.length = t.length) (hx : x < t.length) (h0 : I.getD x false = true) : MF 111 [.ptr 1000 0, .int .i64 x] [(1000, .box [.ro (.rows .i64 t), .vec 1001, .vec 1002, .vec 1003]), (1001, .vec 0 (.ints .i64 u) []), (1002, .vec 0 (.bools I) []), (1003, .vec 0 (.ints .i64 R) [])] (.tup []) [(1000, .box [.ro (.rows .i64 t), .vec 1001, .vec 1002, .vec 1003]), (1001, .vec 0 (.ints .i64 u) []), (1002, .vec 0 (.bools I) []), (1003, .vec 0 (.ints .i64 R) [])] := mkM Tryz.func111 (by decide +kernel) rfl (Nat.le_of_ble_eq_true rfl) fun _ => mgenN_k t u I R x hI hx h0
end Go.Proofs.YtdjbbjjmjopofaaGreat
end
section
/- mult's closure: generator (the first one). -/
namespace Go.Proofs.YtdjbbjjmjopofaaGreat
open Go Go.AM
set_option maxRecDepth 100000
variable {t : List (List Int)}
theorem mgen0_k (t : List (List Int)) (x : Nat) (h : Semi t) (hx : x < t.length) : fnMK TY SP Tryz.f111 [.ptr 1000 0, .int .i64 x] [(1000, .box [.ro (.rows .i64 t), .nils, .vec 1002, .nils]), (1002, .vec 0 (.bools (List.replicate t.length false)) [])] (.tup [])
    [(27, .vec 0 (.ints .i64 [(x : Int)]) []), (301, .vec 0 (.ints .i64 (gnS t [] (List.replicate t.length false, []) x).2) []), (1000, .box [.ro (.rows .i64 t), .vec 27, .vec 1002, .vec 301]), (1002, .vec 0 (.bools (gnS t [] (List.replicate t.length false, []) x).1) [])] := by
  have hm := h.toSh.most
  have hc : ColI t.length (List.replicate t.length false) [] := ColI.start t.length
  have hIl := hc.len
  have hn0 : (List.replicate t.length false).getD x false = false := rep_false _ _
  have ea : addS (List.replicate t.length false, []) x = ((List.replicate t.length false).set x true, [(x : Int)]) := if_neg (by show ¬ (List.replicate t.length false).getD x false = true; rw [hn0]; decide)
  have hui' : ∀ y ∈ [(x : Int)], 0 ≤ y ∧ y < (t.length : Int) := fun y hy => by rw [List.mem_singleton] at hy; omega
  have hul : ([(x : Int)]).length = 1 := rfl
  refine And.intro (by omega) ?_
  refine And.intro (fun h1 => ?_) (fun _ => ?_)
  · have h1 : (List.replicate t.length false).getD x false = true := h1
    rw [hn0] at h1; cases h1
  refine And.intro (by simp) ?_
  refine Or.inr (Or.inl (cm [] [(1000, 1000), (1001, 27), (1002, 1002), (25, 301)] (madd0_fn t [(x : Int)] (List.replicate t.length false) x hIl hx hm hn0) ?_))
  refine And.intro (by repeat' first | refine And.intro ?_ ?_ | exact True.intro | (show (_ : Int) = (_ : Int); omega) | omega | exact rfl | (simp only [RO.len]; omega)) ?_
  refine Exists.intro [] <| lp (X := Nat × List Bool × List Int) (fun s => [(5, .int .i64 s.1)]) (fun s => [(1002, .vec 0 (.bools s.2.1) []), (301, .vec 0 (.ints .i64 s.2.2) [])]) (fun s => s.1 ≤ s.2.2.length ∧ ColI t.length s.2.1 s.2.2 ∧ rnS t [(x : Int)] 0 x (t.length + 1 - s.1) s.1 s.2 = gnS t [] (List.replicate t.length false, []) x) (fun s => t.length - s.1) (0, (List.replicate t.length false).set x true, [(x : Int)]) ⟨Nat.zero_le _, by have := addS_col (s := (List.replicate t.length false, [])) hc hx; rw [ea] at this; exact this, by rw [show ((0 : Nat), (List.replicate t.length false).set x true, [(x : Int)]).2 = addS (List.replicate t.length false, []) x from ea.symm]; rfl⟩ (by repeat' first | refine And.intro ?_ ?_ | exact True.intro | (show (_ : Int) = (_ : Int); omega) | omega | exact rfl | (simp only [RO.len]; omega)) ?_
  intro s ⟨hi, hs, hv⟩
  have hsl := hs.le
  have hsI := hs.len
  refine And.intro (fun h1 => ?_) (fun h1 => ?_)
  · have h1 : (s.1 : Int) < (s.2.2.length : Int) := h1
    have hil : s.1 < s.2.2.length := by omega
    have hr := hs.ins _ (getD_mem (d := 0) hil)
    have hrl : (s.2.2.getD s.1 0).toNat < t.length := by omega
    have r1 := h.toSh.len hrl
    rw [show t.length + 1 - s.1 = (t.length - s.1) + 1 by omega] at hv
    have hv : rnS t [(x : Int)] 0 x (t.length + 1 - (s.1 + 1)) (s.1 + 1) (if s.1 < 0 then addS s.2 (en t (s.2.2.getD s.1 0).toNat x) else rowS t (s.2.2.getD s.1 0).toNat [(x : Int)] s.2) = gnS t [] (List.replicate t.length false, []) x := by
      rw [← hv, show t.length + 1 - (s.1 + 1) = t.length - s.1 by omega]
      rw [rnS.eq_2, if_pos hil]
    refine And.intro (fun h2 => ?_) (fun h2 => ?_)
    · have h2 : (s.1 : Int) < (0 : Int) := h2
      have e1 := h.toSh.ent hrl hx
      rw [if_pos (by omega)] at hv
      have hg := addS_get (s := s.2) (g := en t (s.2.2.getD s.1 0).toNat x) hil
      refine Or.inl ?_
      refine Exists.intro [false, false, false, false, false, false, false, false, false, false, false, false, false, false, false, false, false, true] (And.intro (by decide +kernel) ?_)
      refine And.intro (by omega) ?_
      refine And.intro (show 0 ≤ s.2.2.getD s.1 0 ∧ s.2.2.getD s.1 0 < (t.length : Int) by omega) ?_
      refine And.intro (show 0 ≤ (x : Int) ∧ (x : Int) < ((t.getD (s.2.2.getD s.1 0).toNat []).length : Int) by omega) ?_
      refine Or.inr (Or.inl (cm [] [(1000, 1000), (1001, 27), (1002, 1002), (503, 301)] (madd_fn t [(x : Int)] s.2.1 s.2.2 (en t (s.2.2.getD s.1 0).toNat x) hsI e1.2 hm (by omega)) ?_))
      refine And.intro (by repeat' first | refine And.intro ?_ ?_ | exact True.intro | exact e1.1 | exact rfl | omega) ?_
      refine And.intro (by omega) ?_
      exact Exists.intro (s.1 + 1, addS s.2 (en t (s.2.2.getD s.1 0).toNat x)) (And.intro ⟨⟨by show s.1 + 1 ≤ (addS s.2 (en t (s.2.2.getD s.1 0).toNat x)).2.length; omega, addS_col hs e1.2, hv⟩, by show t.length - (s.1 + 1) < t.length - s.1; omega⟩ (by repeat' first | refine And.intro ?_ ?_ | exact True.intro | (show (_ : Int) = (_ : Int); omega) | omega | exact rfl | (simp only [RO.len]; omega)))
    · have h2 : (0 : Int) ≤ (s.1 : Int) := h2
      rw [if_neg (by omega)] at hv
      refine Exists.intro [37] <| lp (X := Nat × List Bool × List Int) (fun z => [(68, .int .i64 z.1)]) (fun z => [(1002, .vec 0 (.bools z.2.1) []), (301, .vec 0 (.ints .i64 z.2.2) [])]) (fun z => z.1 ≤ [(x : Int)].length ∧ ColI t.length z.2.1 z.2.2 ∧ (s.1 < z.2.2.length ∧ z.2.2.getD s.1 0 = s.2.2.getD s.1 0) ∧ z.2 = rowS t (s.2.2.getD s.1 0).toNat ([(x : Int)].take z.1) s.2) (fun z => [(x : Int)].length - z.1) (0, s.2.1, s.2.2) ⟨Nat.zero_le _, hs, ⟨hil, rfl⟩, by rw [List.take_zero]; rfl⟩ (by repeat' first | refine And.intro ?_ ?_ | exact True.intro | (show (_ : Int) = (_ : Int); omega) | omega | exact rfl | (simp only [RO.len]; omega)) ?_
      intro z ⟨hz1, hz2, hz3, hz4⟩
      have hzl := hz2.le
      have hzI := hz2.len
      refine And.intro (fun h3 => ?_) (fun h3 => ?_)
      · have h3 : (z.1 : Int) < ([(x : Int)].length : Int) := h3
        have hzu : z.1 < [(x : Int)].length := by omega
        have hy := hui' _ (getD_mem (d := 0) hzu)
        have hyl : ([(x : Int)].getD z.1 0).toNat < t.length := by omega
        have e1 := h.toSh.ent hrl hyl
        have e1' : (t.getD (z.2.2.getD s.1 0).toNat []).getD ([(x : Int)].getD z.1 0).toNat 0 = ((en t (s.2.2.getD s.1 0).toNat ([(x : Int)].getD z.1 0).toNat : Nat) : Int) := by rw [hz3.2]; exact e1.1
        have hg := addS_get (s := z.2) (g := en t (s.2.2.getD s.1 0).toNat ([(x : Int)].getD z.1 0).toNat) hz3.1
        refine And.intro (by omega) ?_
        refine Or.inl ?_
        refine Exists.intro [false, false, false, false, false, false, false, false, false, false, false, false, false, false, false, false, false, true] (And.intro (by decide +kernel) ?_)
        refine And.intro (show 0 ≤ (s.1 : Int) ∧ (s.1 : Int) < (z.2.2.length : Int) by omega) ?_
        refine And.intro (show 0 ≤ z.2.2.getD s.1 0 ∧ z.2.2.getD s.1 0 < (t.length : Int) by omega) ?_
        refine And.intro (show 0 ≤ [(x : Int)].getD z.1 0 ∧ [(x : Int)].getD z.1 0 < ((t.getD (z.2.2.getD s.1 0).toNat []).length : Int) by rw [hz3.2]; omega) ?_
        refine Or.inr (Or.inl (cm [] [(1000, 1000), (1001, 27), (1002, 1002), (503, 301)] (madd_fn t [(x : Int)] z.2.1 z.2.2 (en t (s.2.2.getD s.1 0).toNat ([(x : Int)].getD z.1 0).toNat) hzI e1.2 hm (by omega)) ?_))
        refine And.intro (by repeat' first | refine And.intro ?_ ?_ | exact True.intro | exact e1' | exact rfl | omega) ?_
        refine And.intro (by omega) ?_
        refine Exists.intro (z.1 + 1, addS z.2 (en t (s.2.2.getD s.1 0).toNat ([(x : Int)].getD z.1 0).toNat)) (And.intro ⟨⟨by show z.1 + 1 ≤ _; omega, addS_col hz2 e1.2, ⟨hg.1, hg.2.trans hz3.2⟩, ?_⟩, by show [(x : Int)].length - (z.1 + 1) < [(x : Int)].length - z.1; omega⟩ (by repeat' first | refine And.intro ?_ ?_ | exact True.intro | (show (_ : Int) = (_ : Int); omega) | omega | exact rfl | (simp only [RO.len]; omega)))
        rw [List.take_add_one, List.getElem?_eq_getElem hzu, show (some [(x : Int)][z.1]).toList = [[(x : Int)][z.1]] from rfl, rowS_snoc, ← hz4, show [(x : Int)][z.1] = [(x : Int)].getD z.1 0 by rw [List.getD_eq_getElem?_getD, List.getElem?_eq_getElem hzu]; rfl]
      · have h3 : ([(x : Int)].length : Int) ≤ (z.1 : Int) := h3
        rw [List.take_of_length_le (by omega)] at hz4
        rw [← hz4] at hv
        refine And.intro (by omega) ?_
        exact Exists.intro (s.1 + 1, z.2) (And.intro ⟨⟨by show s.1 + 1 ≤ z.2.2.length; omega, hz2, hv⟩, by show t.length - (s.1 + 1) < t.length - s.1; omega⟩ (by repeat' first | refine And.intro ?_ ?_ | exact True.intro | (show (_ : Int) = (_ : Int); omega) | omega | exact rfl | (simp only [RO.len]; omega)))
  · have h1 : (s.2.2.length : Int) ≤ (s.1 : Int) := h1
    have hz : gnS t [] (List.replicate t.length false, []) x = s.2 := by
      rw [← hv, show t.length + 1 - s.1 = (t.length - s.1) + 1 by omega, rnS.eq_2, if_neg (by omega)]
    rw [hz]
    refine And.intro ?_ trivial
    repeat' first | refine And.intro ?_ ?_ | exact True.intro | exact rfl | omega | (simp only [RO.len]; omega)
theorem mgen0_fn (t : List (List Int)) (x : Nat) (h : Semi t) (hx : x < t.length) : MF 111 [.ptr 1000 0, .int .i64 x] [(1000, .box [.ro (.rows .i64 t), .nils, .vec 1002, .nils]), (1002, .vec 0 (.bools (List.replicate t.length false)) [])] (.tup [])
    [(27, .vec 0 (.ints .i64 [(x : Int)]) []), (301, .vec 0 (.ints .i64 (gnS t [] (List.replicate t.length false, []) x).2) []), (1000, .box [.ro (.rows .i64 t), .vec 27, .vec 1002, .vec 301]), (1002, .vec 0 (.bools (gnS t [] (List.replicate t.length false, []) x).1) [])] := mkM Tryz.func111 (by decide +kernel) rfl (Nat.le_of_ble_eq_true rfl) fun _ => mgen0_k t x h hx
end Go.Proofs.YtdjbbjjmjopofaaGreat
end
section
/- mult.Generated: contract. -/
namespace Go.Proofs.YtdjbbjjmjopofaaGreat
open Go Go.AM
set_option maxRecDepth 100000
variable {t : List (List Int)}
theorem addS_len (s : List Bool × List Int) (g : Nat) : s.2.length ≤ (addS s g).2.length := by
  unfold addS
  split
  · exact Nat.le_refl _
  · show s.2.length ≤ (s.2 ++ _).length; rw [List.length_append]; omega
theorem rowS_ok {n : Nat} (ht : Sh t) (hn : n = t.length) {a : Nat} (ha : a < n) : ∀ (u : List Int) (s : List Bool × List Int), (∀ y ∈ u, 0 ≤ y ∧ y < (n : Int)) → ColI n s.1 s.2 → ColI n (rowS t a u s).1 (rowS t a u s).2 ∧ s.2.length ≤ (rowS t a u s).2.length
  | [], s, _, h => ⟨h, Nat.le_refl _⟩
  | y :: u, s, hu, h => by
    have hy := hu y (List.mem_cons_self)
    have he := (ht.ent (x := a) (y := y.toNat) (by omega) (by omega)).2
    have ih := rowS_ok ht hn ha u (addS s (en t a y.toNat)) (fun z hz => hu z (List.mem_cons_of_mem _ hz)) (addS_col h (by omega))
    exact ⟨ih.1, Nat.le_trans (addS_len s _) ih.2⟩
theorem rnS_ok (ht : Sh t) {u : List Int} {old x : Nat} (hu : ∀ y ∈ u, 0 ≤ y ∧ y < (t.length : Int)) (hx : x < t.length) : ∀ (f i : Nat) (s : List Bool × List Int), ColI t.length s.1 s.2 → ColI t.length (rnS t u old x f i s).1 (rnS t u old x f i s).2 ∧ s.2.length ≤ (rnS t u old x f i s).2.length
  | 0, _, s, h => ⟨h, Nat.le_refl _⟩
  | f + 1, i, s, h => by
    unfold rnS
    split
    · rename_i hi
      have hr := h.ins _ (getD_mem (d := 0) hi)
      have hrl : (s.2.getD i 0).toNat < t.length := by omega
      split
      · have ih := rnS_ok ht (u := u) (old := old) hu hx f (i + 1) _ (addS_col h (ht.ent hrl hx).2)
        exact ⟨ih.1, Nat.le_trans (addS_len s _) ih.2⟩
      · have hr2 := rowS_ok ht rfl hrl u s hu h
        have ih := rnS_ok ht (u := u) (old := old) hu hx f (i + 1) _ hr2.1
        exact ⟨ih.1, Nat.le_trans hr2.2 ih.2⟩
    · exact ⟨h, Nat.le_refl _⟩
theorem gnS_ok (ht : Sh t) {u : List Int} {s : List Bool × List Int} {x : Nat} (hu : ∀ y ∈ u, 0 ≤ y ∧ y < (t.length : Int)) (hx : x < t.length) (h : ColI t.length s.1 s.2) (h0 : s.1.getD x false = false) : ColI t.length (gnS t u s x).1 (gnS t u s x).2 ∧ s.2.length + 1 ≤ (gnS t u s x).2.length := by
  have hu' : ∀ y ∈ u ++ [(x : Int)], 0 ≤ y ∧ y < (t.length : Int) := fun y hy => by
    rcases List.mem_append.1 hy with hy | hy
    · exact hu y hy
    · rw [List.mem_singleton] at hy; omega
  have := rnS_ok ht (u := u ++ [(x : Int)]) (old := s.2.length) hu' hx (t.length + 1) 0 _ (addS_col h hx)
  have e : (addS s x).2.length = s.2.length + 1 := by
    unfold addS; rw [if_neg (by rw [h0]; decide)]; show (s.2 ++ _).length = _; rw [List.length_append]; rfl
  rw [e] at this; exact this
/-- The generators used, the marks, the list: after generators 0 .. j. -/
def gnA (t : List (List Int)) (l : List Int) : Nat → List Int × List Bool × List Int
  | 0 => ([((l.getD 0 0).toNat : Int)], gnS t [] (List.replicate t.length false, []) (l.getD 0 0).toNat)
  | j + 1 => if (gnA t l j).2.1.getD (l.getD (j + 1) 0).toNat false = true then gnA t l j else ((gnA t l j).1 ++ [((l.getD (j + 1) 0).toNat : Int)], gnS t (gnA t l j).1 (gnA t l j).2 (l.getD (j + 1) 0).toNat)
theorem gnA_ok (ht : Sh t) {l : List Int} (hl : inT t l) : ∀ j, j < l.length → ColI t.length (gnA t l j).2.1 (gnA t l j).2.2 ∧ (gnA t l j).1.length ≤ (gnA t l j).2.2.length ∧ 0 < (gnA t l j).2.2.length ∧ ∀ y ∈ (gnA t l j).1, 0 ≤ y ∧ y < (t.length : Int)
  | 0, hj => by
    have hy := hl _ (getD_mem (d := 0) hj)
    have := gnS_ok ht (u := []) (s := (List.replicate t.length false, [])) (x := (l.getD 0 0).toNat) (fun y hy => by cases hy) (by omega) (ColI.start _) (rep_false _ _)
    have h2 : 0 + 1 ≤ (gnS t [] (List.replicate t.length false, []) (l.getD 0 0).toNat).2.length := this.2
    exact ⟨this.1, h2, h2, fun y hm => by rw [show (gnA t l 0).1 = [((l.getD 0 0).toNat : Int)] from rfl, List.mem_singleton] at hm; omega⟩
  | j + 1, hj => by
    have ih := gnA_ok ht hl j (by omega)
    have hy := hl _ (getD_mem (d := 0) hj)
    unfold gnA
    split
    · exact ih
    · rename_i e
      have := gnS_ok ht ih.2.2.2 (show (l.getD (j + 1) 0).toNat < t.length by omega) ih.1 (Bool.eq_false_iff.2 e)
      refine ⟨this.1, ?_, ?_, fun y hm => ?_⟩
      · show (_ ++ [_]).length ≤ _
        rw [List.length_append, List.length_singleton]; have h2 : (gnA t l j).2.2.length + 1 ≤ (gnS t (gnA t l j).1 (gnA t l j).2 (l.getD (j + 1) 0).toNat).2.length := this.2; have := ih.2.1; show _ ≤ (gnS t (gnA t l j).1 (gnA t l j).2 (l.getD (j + 1) 0).toNat).2.length; omega
      · show 0 < (gnS t (gnA t l j).1 (gnA t l j).2 (l.getD (j + 1) 0).toNat).2.length; omega
      · rcases List.mem_append.1 hm with hm | hm
        · exact ih.2.2.2 y hm
        · rw [List.mem_singleton] at hm; omega
theorem mGen_k (t : List (List Int)) (l : List Int) (hll : l.length ≤ 140737488355328) (h : Semi t) (hl : inT t l) (h0 : 0 < l.length) : fnK TY SP Tryz.f58 [.ro (.rows .i64 t), .ro (.ints .i64 l)] (.new (.ints .i64 (srtI (gnA t l (l.length - 1)).2.2))) := by
  have hh : (decide (∀ y ∈ l, 0 ≤ y ∧ y < (t.length : Int)) && decide (validV t = 0)) = true := by
    rw [decide_eq_true (p := ∀ y ∈ l, 0 ≤ y ∧ y < (t.length : Int)) hl, decide_eq_true (valid_zero.2 h)]; rfl
  refine Or.inl (cq (mhas_fn t l) (And.intro rfl (And.intro rfl trivial)) ?_)
  refine And.intro (fun h2 => ?_) (fun _ => ?_)
  · have h2 : (!(decide (∀ y ∈ l, 0 ≤ y ∧ y < (t.length : Int)) && decide (validV t = 0))) = true := h2
    rw [hh] at h2; cases h2
  refine Or.inr (Or.inl (cm [] [(6, 401), (8, 402)] (newClo_fn t h) ?_))
  refine And.intro (by repeat' first | refine And.intro ?_ ?_ | exact True.intro | (show (_ : Int) = (_ : Int); omega) | omega | exact rfl | (simp only [RO.len]; omega)) ?_
  refine Exists.intro [7777] ?_
  refine And.intro (fun h3 => ?_) (fun h3 => ?_)
  · have h3 : (0 : Int) < (l.length : Int) := h3
    have hy := hl _ (getD_mem (d := 0) h0)
    have ey : (((l.getD 0 0).toNat : Nat) : Int) = l.getD 0 0 := by omega
    have hg := mgen0_fn t (l.getD 0 0).toNat h (by omega)
    rw [ey] at hg
    refine And.intro (by omega) ?_
    refine Or.inr (Or.inl (cm [] [(1000, 402), (1002, 401), (27, 403), (301, 404)] hg ?_))
    refine And.intro (by repeat' first | refine And.intro ?_ ?_ | exact True.intro | (show (_ : Int) = (_ : Int); omega) | omega | exact rfl | (simp only [RO.len]; omega)) ?_
    have hm := h.toSh.most
    refine And.intro (by omega) ?_
    refine Exists.intro [] <| lp (X := Nat × List Int × List Bool × List Int) (fun s => [(16, .int .i64 ((s.1 + 1 : Nat) : Int))]) (fun s => [(401, .vec 0 (.bools s.2.2.1) []), (403, .vec 0 (.ints .i64 s.2.1) []), (404, .vec 0 (.ints .i64 s.2.2.2) [])]) (fun s => s.1 < l.length ∧ s.2 = gnA t l s.1) (fun s => l.length - s.1) (0, [l.getD 0 0], gnS t [] (List.replicate t.length false, []) (l.getD 0 0).toNat) ⟨h0, by rw [← ey]; rfl⟩ (by repeat' first | refine And.intro ?_ ?_ | exact True.intro | (show (_ : Int) = (_ : Int); omega) | omega | exact rfl | (simp only [RO.len]; omega)) ?_
    intro s ⟨hi, hs⟩
    have ok := gnA_ok h.toSh hl s.1 hi
    rw [← hs] at ok
    have hle := ok.1.le
    have hIl := ok.1.len
    refine And.intro (fun h4 => ?_) (fun h4 => ?_)
    · have h4 : ((s.1 + 1 : Nat) : Int) < (l.length : Int) := h4
      have hil : s.1 + 1 < l.length := by omega
      have hy := hl _ (getD_mem (d := 0) hil)
      have ey : (((l.getD (s.1 + 1) 0).toNat : Nat) : Int) = l.getD (s.1 + 1) 0 := by omega
      have hn := mgenN_fn t s.2.1 s.2.2.1 s.2.2.2 (l.getD (s.1 + 1) 0).toNat hIl (by omega)
      have hg := mgen_fn t s.2.1 s.2.2.1 s.2.2.2 (l.getD (s.1 + 1) 0).toNat h ok.1 (by omega) (by omega) ok.2.2.2
      rw [ey] at hn hg
      refine And.intro (by omega) ?_
      cases hb : s.2.2.1.getD (l.getD (s.1 + 1) 0).toNat false with
      | true =>
        refine Or.inr (Or.inl (cm [] [(1000, 402), (1001, 403), (1002, 401), (1003, 404)] (hn hb) ?_))
        refine And.intro (by repeat' first | refine And.intro ?_ ?_ | exact True.intro | (show (_ : Int) = (_ : Int); omega) | omega | exact rfl | (simp only [RO.len]; omega)) ?_
        refine And.intro (by omega) ?_
        exact Exists.intro (s.1 + 1, s.2) (And.intro ⟨⟨hil, by show s.2 = gnA t l (s.1 + 1); unfold gnA; rw [← hs, if_pos hb]⟩, by show l.length - (s.1 + 1) < l.length - s.1; omega⟩ (by repeat' first | refine And.intro ?_ ?_ | exact True.intro | (show (_ : Int) = (_ : Int); omega) | omega | exact rfl | (simp only [RO.len]; omega)))
      | false =>
        refine Or.inr (Or.inl (cm [] [(1000, 402), (501, 403), (1002, 401), (503, 404)] (hg hb) ?_))
        refine And.intro (by repeat' first | refine And.intro ?_ ?_ | exact True.intro | (show (_ : Int) = (_ : Int); omega) | omega | exact rfl | (simp only [RO.len]; omega)) ?_
        refine And.intro (by omega) ?_
        exact Exists.intro (s.1 + 1, s.2.1 ++ [l.getD (s.1 + 1) 0], gnS t s.2.1 s.2.2 (l.getD (s.1 + 1) 0).toNat) (And.intro ⟨⟨hil, by show _ = gnA t l (s.1 + 1); unfold gnA; rw [← hs, if_neg (by rw [hb]; decide), ey]⟩, by show l.length - (s.1 + 1) < l.length - s.1; omega⟩ (by repeat' first | refine And.intro ?_ ?_ | exact True.intro | (show (_ : Int) = (_ : Int); omega) | omega | exact rfl | (simp only [RO.len]; omega)))
    · have h4 : (l.length : Int) ≤ ((s.1 + 1 : Nat) : Int) := h4
      have e : s.1 = l.length - 1 := by omega
      refine Or.inr (Or.inl (cm [] [(1000, 404)] (sortI_m s.2.2.2 ok.2.2.1) ?_))
      refine And.intro (by repeat' first | refine And.intro ?_ ?_ | exact True.intro | (show (_ : Int) = (_ : Int); omega) | omega | exact rfl | (simp only [RO.len]; omega)) ?_
      refine And.intro (And.intro (by omega) ?_) trivial
      rw [← e, ← hs]
  · have h3 : (l.length : Int) ≤ 0 := h3
    omega
theorem mGen_fn (t : List (List Int)) (l : List Int) (h : Semi t) (hl : inT t l) (h0 : 0 < l.length) : QF 58 [.ro (.rows .i64 t), .ro (.ints .i64 l)] (.new (.ints .i64 (srtI (gnA t l (l.length - 1)).2.2))) := mkQ Tryz.func58 (by decide +kernel) rfl (Nat.le_of_ble_eq_true rfl) fun hf => mGen_k t l hf.2.1.1 h hl h0
end Go.Proofs.YtdjbbjjmjopofaaGreat
end
