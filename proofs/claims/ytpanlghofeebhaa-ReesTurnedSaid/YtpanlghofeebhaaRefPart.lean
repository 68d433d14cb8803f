import Derived.Test.YtpanlghofeebhaaMult
import Derived.Test.YtpanlghofeebhaaPart
import Derived.Test.YtpanlghofeebhaaReesLaw
section
/- Sets as words of 64 bits: what the machine's operations on them come to. Plain; no program. -/
namespace Go.Proofs.Ytpanlghofeebhaa
open Go Go.AM
def isW (w : Int) : Prop := 0 ≤ w ∧ w ≤ 18446744073709551615
theorem w_lt {w : Int} (h : isW w) : w.toNat < 2 ^ 64 := by have := h.2; omega
theorem w_nat {w : Int} (h : isW w) : (w.toNat : Int) = w := by have := h.1; omega
theorem ofInt_nat {w : Int} (h : isW w) : (BitVec.ofInt 64 w).toNat = w.toNat := by
  rw [BitVec.toNat_ofInt]
  have h1 := h.1
  have h2 := h.2
  have : w % ((2 ^ 64 : Nat) : Int) = w := Int.emod_eq_of_lt h1 (by omega)
  rw [this]
theorem or_w {a b : Int} (ha : isW a) (hb : isW b) : orI .u64 a b = ((a.toNat ||| b.toNat : Nat) : Int) := by
  unfold orI
  show IntKind.u64.wrap ((BitVec.ofInt 64 a ||| BitVec.ofInt 64 b).toNat : Int) = _
  rw [BitVec.toNat_or, ofInt_nat ha, ofInt_nat hb]
  apply wrap_in
  have := Nat.or_lt_two_pow (w_lt ha) (w_lt hb)
  constructor
  · show (0 : Int) ≤ _
    omega
  · show _ ≤ (18446744073709551615 : Int)
    omega
theorem and_w {a b : Int} (ha : isW a) (hb : isW b) : andI .u64 a b = ((a.toNat &&& b.toNat : Nat) : Int) := by
  unfold andI
  show IntKind.u64.wrap ((BitVec.ofInt 64 a &&& BitVec.ofInt 64 b).toNat : Int) = _
  rw [BitVec.toNat_and, ofInt_nat ha, ofInt_nat hb]
  apply wrap_in
  have := Nat.and_lt_two_pow (n := 64) a.toNat (w_lt hb)
  constructor
  · show (0 : Int) ≤ _
    omega
  · show _ ≤ (18446744073709551615 : Int)
    omega
theorem and_i {a b : Int} (ha : 0 ≤ a ∧ a ≤ 9223372036854775807) (hb : 0 ≤ b ∧ b ≤ 9223372036854775807) : andI .i64 a b = ((a.toNat &&& b.toNat : Nat) : Int) := by
  unfold andI
  show IntKind.i64.wrap ((BitVec.ofInt 64 a &&& BitVec.ofInt 64 b).toNat : Int) = _
  rw [BitVec.toNat_and, ofInt_nat ⟨ha.1, by omega⟩, ofInt_nat ⟨hb.1, by omega⟩]
  apply wrap_in
  have := Nat.and_lt_two_pow (n := 63) a.toNat (show b.toNat < 2 ^ 63 by omega)
  constructor
  · show (-9223372036854775808 : Int) ≤ _
    omega
  · show _ ≤ (9223372036854775807 : Int)
    omega
theorem low6 {x : Nat} (hx : (x : Int) ≤ 9223372036854775807) : andI .i64 x 63 = ((x % 64 : Nat) : Int) := by
  rw [and_i ⟨by omega, hx⟩ ⟨by decide, by decide⟩]
  congr 1
  exact Nat.and_two_pow_sub_one_eq_mod x 6
theorem shr_nat {k : IntKind} (hk : k = .i64 ∨ k = .u64) (x i : Nat) (hi : i < 64) : shrI k x i = ((x / 2 ^ i : Nat) : Int) := by
  unfold shrI
  have : min (i : Int).toNat k.bits = i := by rcases hk with rfl | rfl <;> simp [IntKind.bits] <;> omega
  rw [this]
  exact (Int.natCast_ediv x (2 ^ i)).symm ▸ (by rw [Int.fdiv_eq_ediv_of_nonneg]; · norm_cast
                                                · exact Int.le_of_lt (Int.pow_pos (by decide)))
theorem word6 (x : Nat) : shrI .i64 x 6 = ((x / 64 : Nat) : Int) := shr_nat (.inl rfl) x 6 (by decide)
theorem one_shl {i : Nat} (hi : i < 64) : shlI .u64 1 i = ((2 ^ i : Nat) : Int) := by
  unfold shlI
  have : min (i : Int).toNat (IntKind.u64.bits) = i := by simp [IntKind.bits]; omega
  rw [this]
  have hp : 2 ^ i ≤ 2 ^ 63 := Nat.pow_le_pow_right (by decide) (by omega)
  have e : (1 : Int) * 2 ^ i = ((2 ^ i : Nat) : Int) := by rw [Int.one_mul]; norm_cast
  rw [e]
  apply wrap_in
  constructor
  · exact Int.natCast_nonneg _
  · show _ ≤ (18446744073709551615 : Int)
    have : (2 : Nat) ^ 63 = 9223372036854775808 := by decide
    omega
def bit (ws : List Int) (x : Nat) : Bool := (ws.getD (x / 64) 0).toNat.testBit (x % 64)
def wordsOk (ws : List Int) : Prop := ∀ w ∈ ws, isW w
theorem bit_has {ws : List Int} (hw : wordsOk ws) {x : Nat} (hx : x / 64 < ws.length) (hx2 : (x : Int) ≤ 9223372036854775807) :
    andI .u64 (shrI .u64 (ws.getD (x / 64) 0) (andI .i64 x 63)) 1 = 1 ↔ bit ws x = true := by
  have h := hw _ (getD_mem (d := 0) hx)
  rw [low6 hx2]
  rw [← w_nat h, shr_nat (.inr rfl) _ _ (Nat.mod_lt _ (by decide))]
  rw [and_w ⟨Int.natCast_nonneg _, ?_⟩ ⟨by decide, by decide⟩]
  · unfold bit
    rw [Nat.testBit_eq_decide_div_mod_eq, decide_eq_true_eq]
    have e : ((((ws.getD (x / 64) 0).toNat / 2 ^ (x % 64) : Nat) : Int).toNat &&& (1 : Int).toNat) = (ws.getD (x / 64) 0).toNat / 2 ^ (x % 64) % 2 := by
      rw [Int.toNat_natCast]
      exact Nat.and_two_pow_sub_one_eq_mod _ 1
    rw [e]
    constructor
    · intro h; exact_mod_cast h
    · intro h; rw [h]; rfl
  · have h1 := Nat.div_le_self (ws.getD (x / 64) 0).toNat (2 ^ (x % 64))
    have h2 := w_lt h
    omega
def addW (ws : List Int) (x : Nat) : List Int := ws.set (x / 64) (orI .u64 (ws.getD (x / 64) 0) (shlI .u64 1 (andI .i64 x 63)))
theorem addW_len (ws : List Int) (x : Nat) : (addW ws x).length = ws.length := by simp [addW]
theorem addW_word {ws : List Int} (hw : wordsOk ws) {x : Nat} (hx : x / 64 < ws.length) (hx2 : (x : Int) ≤ 9223372036854775807) :
    orI .u64 (ws.getD (x / 64) 0) (shlI .u64 1 (andI .i64 x 63)) = (((ws.getD (x / 64) 0).toNat ||| 2 ^ (x % 64) : Nat) : Int) ∧ isW (orI .u64 (ws.getD (x / 64) 0) (shlI .u64 1 (andI .i64 x 63))) := by
  have h := hw _ (getD_mem (d := 0) hx)
  have hp : 2 ^ (x % 64) ≤ 2 ^ 63 := Nat.pow_le_pow_right (by decide) (by omega)
  have h63 : (2 : Nat) ^ 63 = 9223372036854775808 := by decide
  have e : orI .u64 (ws.getD (x / 64) 0) (shlI .u64 1 (andI .i64 x 63)) = (((ws.getD (x / 64) 0).toNat ||| 2 ^ (x % 64) : Nat) : Int) := by
    rw [low6 hx2, one_shl (Nat.mod_lt _ (by decide)), or_w h ⟨Int.natCast_nonneg _, by omega⟩, Int.toNat_natCast]
  refine ⟨e, ?_⟩
  rw [e]
  have := Nat.or_lt_two_pow (n := 64) (w_lt h) (show 2 ^ (x % 64) < 2 ^ 64 by omega)
  exact ⟨by omega, by omega⟩
theorem addW_ok {ws : List Int} (hw : wordsOk ws) {x : Nat} (hx : x / 64 < ws.length) (hx2 : (x : Int) ≤ 9223372036854775807) : wordsOk (addW ws x) := fun w hm => by
  rcases List.mem_or_eq_of_mem_set hm with h | h
  · exact hw w h
  · rw [h]; exact (addW_word hw hx hx2).2
theorem addW_bit {ws : List Int} (hw : wordsOk ws) {x : Nat} (hx : x / 64 < ws.length) (hx2 : (x : Int) ≤ 9223372036854775807) (y : Nat) : bit (addW ws x) y = (bit ws y || decide (y = x)) := by
  unfold bit addW
  by_cases hxy : x / 64 = y / 64
  · rw [← hxy, getD_set_eq hx, (addW_word hw hx hx2).1, Int.toNat_natCast, Nat.testBit_or, Nat.testBit_two_pow]
    congr 1
    have h1 := Nat.div_add_mod x 64
    have h2 := Nat.div_add_mod y 64
    have : x % 64 = y % 64 ↔ y = x := by omega
    simp [this]
  · rw [getD_set_ne hxy]
    have : y ≠ x := fun e => hxy (by rw [e])
    simp [this]
def uniteW (a b : List Int) (k : Nat) : List Int := (List.range a.length).map fun i => if i < k then orI .u64 (a.getD i 0) (b.getD i 0) else a.getD i 0
theorem uniteW_zero (a b : List Int) : uniteW a b 0 = a := by
  refine List.ext_getElem (by simp [uniteW]) fun j h1 h2 => ?_
  simp [uniteW, List.getD, h2]
theorem uniteW_len (a b : List Int) (k : Nat) : (uniteW a b k).length = a.length := by simp [uniteW]
theorem uniteW_get {a b : List Int} {k i : Nat} (hi : i < a.length) : (uniteW a b k).getD i 0 = if i < k then orI .u64 (a.getD i 0) (b.getD i 0) else a.getD i 0 := by
  simp only [uniteW, List.getD, List.getElem?_map, List.getElem?_range hi, Option.map_some, Option.getD_some]
theorem uniteW_next {a b : List Int} {k : Nat} (hk : k < a.length) : (uniteW a b k).set k (orI .u64 ((uniteW a b k).getD k 0) (b.getD k 0)) = uniteW a b (k + 1) := by
  refine List.ext_getElem (by simp [uniteW]) fun j h1 h2 => ?_
  have hj : j < a.length := by simpa [uniteW] using h2
  have e : ∀ {l : List Int} {h : j < l.length}, l[j] = l.getD j 0 := fun {l h} => by simp [List.getD, h]
  rw [e, e, uniteW_get hj]
  by_cases hjk : j = k
  · subst hjk
    rw [getD_set_eq (by rw [uniteW_len]; exact hj), uniteW_get hj, if_neg (Nat.lt_irrefl _), if_pos (Nat.lt_succ_self _)]
  · rw [getD_set_ne (Ne.symm hjk), uniteW_get hj]
    by_cases h : j < k
    · rw [if_pos h, if_pos (by omega)]
    · rw [if_neg h, if_neg (by omega)]
theorem uniteW_ok {a b : List Int} (ha : wordsOk a) (hb : wordsOk b) (hl : a.length = b.length) : wordsOk (uniteW a b a.length) := fun w hm => by
  obtain ⟨i, hi, rfl⟩ := mem_getD 0 hm
  rw [uniteW_len] at hi
  rw [uniteW_get hi, if_pos hi]
  have h1 := ha _ (getD_mem (d := 0) hi)
  have h2 := hb _ (getD_mem (d := 0) (hl ▸ hi))
  rw [or_w h1 h2]
  have := Nat.or_lt_two_pow (w_lt h1) (w_lt h2)
  exact ⟨by omega, by omega⟩
theorem uniteW_bit {a b : List Int} (ha : wordsOk a) (hb : wordsOk b) (hl : a.length = b.length) {x : Nat} (hx : x / 64 < a.length) : bit (uniteW a b a.length) x = (bit a x || bit b x) := by
  unfold bit
  have h1 := ha _ (getD_mem (d := 0) hx)
  have h2 := hb _ (getD_mem (d := 0) (hl ▸ hx))
  rw [uniteW_get hx, if_pos hx, or_w h1 h2, Int.toNat_natCast, Nat.testBit_or]
theorem zero_bit (n x : Nat) : bit (List.replicate n 0) x = false := by
  unfold bit
  have : (List.replicate n (0 : Int)).getD (x / 64) 0 = 0 := by simp only [List.getD, List.getElem?_replicate]; split <;> rfl
  rw [this]; simp
theorem zero_ok (n : Nat) : wordsOk (List.replicate n 0) := fun w hw => by
  rw [List.eq_of_mem_replicate hw]; exact ⟨by decide, by decide⟩
end Go.Proofs.Ytpanlghofeebhaa
end
section
/- Green's relations of a table: the ideals of its elements and their classes. Plain; no program. -/
namespace Go.Proofs.Ytpanlghofeebhaa
open Go Go.AM
def inRB (t : List (List Int)) (y x : Nat) : Bool := decide (x = y) || (t.getD y []).contains (x : Int)
def inLB (t : List (List Int)) (y x : Nat) : Bool := decide (x = y) || t.any fun row => row.getD y 0 == (x : Int)
def inJB (t : List (List Int)) (y x : Nat) : Bool := (List.range t.length).any fun z => inLB t y z && inRB t z x
structure IdR (n : Nat) (e : Nat → Nat → Bool) (I : List (List Int)) : Prop where
  len : I.length = n
  row : ∀ y, y < n → (I.getD y []).length = (n + 63) / 64 ∧ wordsOk (I.getD y [])
  bit : ∀ y x, y < n → x < n → bit (I.getD y []) x = e y x
def rep (e : Nat → Nat → Bool) (x : Nat) : Nat := ((List.range x).find? fun y => e x y && e y x).getD x
def repsL (n : Nat) (e : Nat → Nat → Bool) : List Int := (List.range n).map fun x => ((rep e x : Nat) : Int)
theorem rep_of {e : Nat → Nat → Bool} {x y : Nat} (hy : y < x) (h : (e x y && e y x) = true) (hn : ∀ z, z < y → (e x z && e z x) = false) : rep e x = y := by
  unfold rep
  have : (List.range x).find? (fun y => e x y && e y x) = some y := by
    rw [List.find?_range_eq_some]
    exact ⟨h, by rw [List.mem_range]; exact hy, fun z hz => by show (!_) = true; rw [hn z hz]; rfl⟩
  rw [this]; rfl
theorem rep_none {e : Nat → Nat → Bool} {x : Nat} (h : ∀ y, y < x → (e x y && e y x) = false) : rep e x = x := by
  unfold rep
  have : (List.range x).find? (fun y => e x y && e y x) = none := by
    rw [List.find?_range_eq_none]
    exact fun y hy => by show (!_) = true; rw [h y hy]; rfl
  rw [this]; rfl
theorem rep_cases (e : Nat → Nat → Bool) (x : Nat) : (rep e x = x ∧ ∀ y, y < x → (e x y && e y x) = false) ∨ (rep e x < x ∧ (e x (rep e x) && e (rep e x) x) = true ∧ ∀ y, y < rep e x → (e x y && e y x) = false) := by
  by_cases h : ∀ y, y < x → (e x y && e y x) = false
  · exact .inl ⟨rep_none h, h⟩
  · have : ∃ y, y < x ∧ (e x y && e y x) = true := by
      apply Classical.byContradiction
      intro hn
      exact h fun y hy => by
        cases hb : (e x y && e y x) with
        | false => rfl
        | true => exact absurd ⟨y, hy, hb⟩ hn
    have least : ∀ n, (∃ y, y < n ∧ y < x ∧ (e x y && e y x) = true) → ∃ y, y < x ∧ (e x y && e y x) = true ∧ ∀ z, z < y → (e x z && e z x) = false := by
      intro n
      induction n with
      | zero => rintro ⟨y, hy, _⟩; exact absurd hy (Nat.not_lt_zero _)
      | succ n ih =>
        rintro ⟨y, hy, hyx, hb⟩
        by_cases hl : ∃ z, z < n ∧ z < x ∧ (e x z && e z x) = true
        · exact ih hl
        · refine ⟨y, hyx, hb, fun z hz => ?_⟩
          cases hzb : (e x z && e z x) with
          | false => rfl
          | true => exact absurd ⟨z, by omega, by omega, hzb⟩ hl
    obtain ⟨y, hy, hb⟩ := this
    obtain ⟨y, h1, h2, h3⟩ := least (y + 1) ⟨y, Nat.lt_succ_self _, hy, hb⟩
    have := rep_of h1 h2 h3
    exact .inr (by rw [this]; exact ⟨h1, h2, h3⟩)
theorem repsL_len (n : Nat) (e : Nat → Nat → Bool) : (repsL n e).length = n := by simp [repsL]
theorem repsL_get {n : Nat} {e : Nat → Nat → Bool} {x : Nat} (hx : x < n) : (repsL n e).getD x 0 = ((rep e x : Nat) : Int) := by
  simp only [repsL, List.getD, List.getElem?_map, List.getElem?_range hx, Option.map_some, Option.getD_some]
structure Pre (n : Nat) (e : Nat → Nat → Bool) : Prop where
  refl : ∀ x, x < n → e x x = true
  trans : ∀ x y z, x < n → y < n → z < n → e x y = true → e y z = true → e x z = true
theorem rep_iff {n : Nat} {e : Nat → Nat → Bool} (h : Pre n e) {x y : Nat} (hx : x < n) (hy : y < n) : rep e x = rep e y ↔ (e x y = true ∧ e y x = true) := by
  have muty : ∀ x, x < n → rep e x < n ∧ e x (rep e x) = true ∧ e (rep e x) x = true := fun x hx => by
    rcases rep_cases e x with ⟨h1, _⟩ | ⟨h1, h2, _⟩
    · rw [h1]; exact ⟨hx, h.refl x hx, h.refl x hx⟩
    · rw [Bool.and_eq_true] at h2; exact ⟨by omega, h2.1, h2.2⟩
  have least : ∀ x z, x < n → z < n → e x z = true → e z x = true → rep e x ≤ z := fun x z hx hz h1 h2 => by
    rcases rep_cases e x with ⟨g1, g2⟩ | ⟨g1, _, g2⟩
    · rw [g1]
      apply Nat.le_of_not_lt
      intro hlt
      have := g2 z hlt
      rw [h1, h2] at this; cases this
    · apply Nat.le_of_not_lt
      intro hlt
      have := g2 z hlt
      rw [h1, h2] at this; cases this
  obtain ⟨a1, a2, a3⟩ := muty x hx
  obtain ⟨b1, b2, b3⟩ := muty y hy
  constructor
  · intro he
    exact ⟨h.trans x (rep e x) y hx a1 hy a2 (he ▸ b3), h.trans y (rep e x) x hy a1 hx (he ▸ b2) a3⟩
  · rintro ⟨h1, h2⟩
    apply Nat.le_antisymm
    · exact least x (rep e y) hx b1 (h.trans x y _ hx hy b1 h1 b2) (h.trans _ y x b1 hy hx b3 h2)
    · exact least y (rep e x) hy a1 (h.trans y x _ hy hx a1 h2 a2) (h.trans _ x y a1 hx hy a3 h1)
def clsL (n : Nat) (e : Nat → Nat → Bool) : List Int := canon (repsL n e)
theorem clsL_len (n : Nat) (e : Nat → Nat → Bool) : (clsL n e).length = n := by rw [clsL, canon_length, repsL_len]
theorem clsL_iff {n : Nat} {e : Nat → Nat → Bool} (h : Pre n e) {x y : Nat} (hx : x < n) (hy : y < n) : (clsL n e).getD x 0 = (clsL n e).getD y 0 ↔ (e x y = true ∧ e y x = true) := by
  rw [clsL, canon_eq_iff (d := 0) (by rw [repsL_len]; exact hx) (by rw [repsL_len]; exact hy), repsL_get hx, repsL_get hy, ← rep_iff h hx hy]
  exact Int.ofNat_inj
theorem clsL_valid {n : Nat} {e : Nat → Nat → Bool} (hn : n ≤ 4096) : validP (clsL n e) := ⟨by rw [clsL_len]; exact hn, canon_idem _⟩
/-! ### In a semigroup -/
theorem inRB_iff {t : List (List Int)} (h : Sh t) {y x : Nat} (hy : y < t.length) : inRB t y x = true ↔ x = y ∨ ∃ s, s < t.length ∧ en t y s = x := by
  unfold inRB
  rw [Bool.or_eq_true, decide_eq_true_eq, List.contains_iff_mem]
  refine or_congr Iff.rfl ⟨fun hm => ?_, fun ⟨s, hs, he⟩ => ?_⟩
  · obtain ⟨s, hs, he⟩ := mem_getD 0 hm
    rw [h.len hy] at hs
    have := (h.ent hy hs).1
    exact ⟨s, hs, by rw [he] at this; exact_mod_cast this.symm⟩
  · have := (h.ent hy hs).1
    rw [← he, ← this]
    exact getD_mem (by rw [h.len hy]; exact hs)
theorem inLB_iff {t : List (List Int)} (h : Sh t) {y x : Nat} (hy : y < t.length) : inLB t y x = true ↔ x = y ∨ ∃ s, s < t.length ∧ en t s y = x := by
  unfold inLB
  rw [Bool.or_eq_true, decide_eq_true_eq, List.any_eq_true]
  refine or_congr Iff.rfl ⟨fun ⟨row, hm, he⟩ => ?_, fun ⟨s, hs, he⟩ => ?_⟩
  · obtain ⟨s, hs, rfl⟩ := mem_getD [] hm
    have := (h.ent hs hy).1
    have he : (t.getD s []).getD y 0 = (x : Int) := by simpa using he
    exact ⟨s, hs, by rw [he] at this; exact_mod_cast this.symm⟩
  · refine ⟨t.getD s [], getD_mem hs, ?_⟩
    have := (h.ent hs hy).1
    rw [this, he]; simp
theorem inR_lt {t : List (List Int)} (h : Sh t) {y x : Nat} (hy : y < t.length) (hx : inRB t y x = true) : x < t.length := by
  rcases (inRB_iff h hy).1 hx with rfl | ⟨s, hs, rfl⟩
  · exact hy
  · exact (h.ent hy hs).2
theorem inL_lt {t : List (List Int)} (h : Sh t) {y x : Nat} (hy : y < t.length) (hx : inLB t y x = true) : x < t.length := by
  rcases (inLB_iff h hy).1 hx with rfl | ⟨s, hs, rfl⟩
  · exact hy
  · exact (h.ent hs hy).2
theorem preR {t : List (List Int)} (h : Semi t) : Pre t.length (inRB t) where
  refl x hx := (inRB_iff h.toSh hx).2 (.inl rfl)
  trans x y z hx hy hz h1 h2 := by
    rw [inRB_iff h.toSh hx] at h1 ⊢
    rw [inRB_iff h.toSh hy] at h2
    rcases h1 with rfl | ⟨s, hs, rfl⟩
    · exact h2
    · rcases h2 with rfl | ⟨u, hu, rfl⟩
      · exact .inr ⟨s, hs, rfl⟩
      · exact .inr ⟨en t s u, (h.toSh.ent hs hu).2, (assoc3 h.assoc hx hs hu).symm⟩
theorem preL {t : List (List Int)} (h : Semi t) : Pre t.length (inLB t) where
  refl x hx := (inLB_iff h.toSh hx).2 (.inl rfl)
  trans x y z hx hy hz h1 h2 := by
    rw [inLB_iff h.toSh hx] at h1 ⊢
    rw [inLB_iff h.toSh hy] at h2
    rcases h1 with rfl | ⟨s, hs, rfl⟩
    · exact h2
    · rcases h2 with rfl | ⟨u, hu, rfl⟩
      · exact .inr ⟨s, hs, rfl⟩
      · exact .inr ⟨en t u s, (h.toSh.ent hu hs).2, assoc3 h.assoc hu hs hx⟩
theorem inJB_iff {t : List (List Int)} (_h : Sh t) {y x : Nat} (_hy : y < t.length) : inJB t y x = true ↔ ∃ z, z < t.length ∧ inLB t y z = true ∧ inRB t z x = true := by
  unfold inJB
  rw [List.any_eq_true]
  constructor
  · rintro ⟨z, hz, he⟩
    rw [Bool.and_eq_true] at he
    exact ⟨z, List.mem_range.1 hz, he⟩
  · rintro ⟨z, hz, he⟩
    exact ⟨z, List.mem_range.2 hz, by rw [Bool.and_eq_true]; exact he⟩
theorem swap {t : List (List Int)} (h : Semi t) {x y z : Nat} (hx : x < t.length) (h1 : inRB t x y = true) (h2 : inLB t y z = true) : ∃ w, w < t.length ∧ inLB t x w = true ∧ inRB t w z = true := by
  have hy := inR_lt h.toSh hx h1
  have hz := inL_lt h.toSh hy h2
  rw [inLB_iff h.toSh hy] at h2
  rcases h2 with rfl | ⟨s, hs, rfl⟩
  · exact ⟨x, hx, (inLB_iff h.toSh hx).2 (.inl rfl), h1⟩
  · rw [inRB_iff h.toSh hx] at h1
    rcases h1 with rfl | ⟨u, hu, rfl⟩
    · exact ⟨en t s y, hz, (inLB_iff h.toSh hx).2 (.inr ⟨s, hs, rfl⟩), (inRB_iff h.toSh hz).2 (.inl rfl)⟩
    · have hw := (h.toSh.ent hs hx).2
      exact ⟨en t s x, hw, (inLB_iff h.toSh hx).2 (.inr ⟨s, hs, rfl⟩), (inRB_iff h.toSh hw).2 (.inr ⟨u, hu, assoc3 h.assoc hs hx hu⟩)⟩
theorem preJ {t : List (List Int)} (h : Semi t) : Pre t.length (inJB t) where
  refl x hx := (inJB_iff h.toSh hx).2 ⟨x, hx, (preL h).refl x hx, (preR h).refl x hx⟩
  trans x y z hx hy hz h1 h2 := by
    rw [inJB_iff h.toSh hx] at h1 ⊢
    rw [inJB_iff h.toSh hy] at h2
    obtain ⟨a, ha, h3, h4⟩ := h1
    obtain ⟨b, hb, h5, h6⟩ := h2
    obtain ⟨c, hc, h7, h8⟩ := swap h ha h4 h5
    exact ⟨c, hc, (preL h).trans x a c hx ha hc h3 h7, (preR h).trans c b z hc hb hz h8 h6⟩
/-! ### The classes of a table -/
def classR (t : List (List Int)) : List Int := clsL t.length (inRB t)
def classL (t : List (List Int)) : List Int := clsL t.length (inLB t)
def classJ (t : List (List Int)) : List Int := clsL t.length (inJB t)
def classH (t : List (List Int)) : List Int := canon ((classR t).zip (classL t))
def fstC (p : List Int) (c : Nat) : Nat := (((classes (classN p) p).getD c []).getD 0 0).toNat
def numJ (t : List (List Int)) : Nat := classN (classJ t)
def belowL (t : List (List Int)) : List (List Bool) := (List.range (numJ t)).map fun i => (List.range (numJ t)).map fun j => inJB t (fstC (classJ t) j) (fstC (classJ t) i)
theorem belowL_len (t : List (List Int)) : (belowL t).length = numJ t := by simp [belowL]
theorem belowL_row {t : List (List Int)} {i : Nat} (hi : i < numJ t) : (belowL t).getD i [] = (List.range (numJ t)).map fun j => inJB t (fstC (classJ t) j) (fstC (classJ t) i) := by
  simp only [belowL, List.getD, List.getElem?_map, List.getElem?_range hi, Option.map_some, Option.getD_some]
theorem belowL_get {t : List (List Int)} {i j : Nat} (hi : i < numJ t) (hj : j < numJ t) : ((belowL t).getD i []).getD j false = inJB t (fstC (classJ t) j) (fstC (classJ t) i) := by
  rw [belowL_row hi]
  simp only [List.getD, List.getElem?_map, List.getElem?_range hj, Option.map_some, Option.getD_some]
theorem fst_of {p : List Int} (h : canon p = p) {c : Nat} (hc : c < classN p) : 0 < ((classes (classN p) p).getD c []).length ∧ ((classes (classN p) p).getD c []).getD 0 0 = ((fstC p c : Nat) : Int) ∧ fstC p c < p.length ∧ p.getD (fstC p c) 0 = c := by
  have hm := (valid_range h (c : Int)).1 ⟨by omega, by omega⟩
  obtain ⟨i, hi, he⟩ := mem_getD 0 hm
  have hin : ((i : Nat) : Int) ∈ (classes (classN p) p).getD c [] := (mem_classes hc).2 ⟨by omega, by omega, by simpa using he⟩
  have hpos : 0 < ((classes (classN p) p).getD c []).length := List.length_pos_of_mem hin
  have h0 := (mem_classes hc).1 (getD_mem (d := 0) hpos)
  refine ⟨hpos, ?_, ?_, ?_⟩
  · unfold fstC; omega
  · unfold fstC; omega
  · unfold fstC; exact h0.2.2
theorem classJ_len (t : List (List Int)) : (classJ t).length = t.length := clsL_len _ _
theorem classR_len (t : List (List Int)) : (classR t).length = t.length := clsL_len _ _
theorem classL_len (t : List (List Int)) : (classL t).length = t.length := clsL_len _ _
theorem classJ_canon (t : List (List Int)) : canon (classJ t) = classJ t := canon_idem _
theorem numJ_le (t : List (List Int)) : numJ t ≤ t.length := by
  have := firsts_le (classJ t)
  rw [classJ_len] at this; exact this
theorem classJ_lt (t : List (List Int)) {x : Nat} (hx : x < t.length) : 0 ≤ (classJ t).getD x 0 ∧ (classJ t).getD x 0 < numJ t := by
  have := (valid_range (classJ_canon t) ((classJ t).getD x 0)).2 (getD_mem (by rw [classJ_len]; exact hx))
  exact this
theorem classJ_iff {t : List (List Int)} (h : Semi t) {x y : Nat} (hx : x < t.length) (hy : y < t.length) : (classJ t).getD x 0 = (classJ t).getD y 0 ↔ (inJB t x y = true ∧ inJB t y x = true) := clsL_iff (preJ h) hx hy
theorem fstJ {t : List (List Int)} {c : Nat} (hc : c < numJ t) : 0 < ((classes (numJ t) (classJ t)).getD c []).length ∧ ((classes (numJ t) (classJ t)).getD c []).getD 0 0 = ((fstC (classJ t) c : Nat) : Int) ∧ fstC (classJ t) c < t.length ∧ (classJ t).getD (fstC (classJ t) c) 0 = c := by
  have := fst_of (classJ_canon t) hc
  rw [classJ_len] at this
  exact this
end Go.Proofs.Ytpanlghofeebhaa
end
section
/- The principal factor of a J-class: a semigroup. Plain; no program. -/
namespace Go.Proofs.Ytpanlghofeebhaa
open Go Go.AM
def elemsJ (t : List (List Int)) (j : Nat) : List Int := (classes (numJ t) (classJ t)).getD j []
def inJ (t : List (List Int)) (j : Nat) : List Bool := (List.range t.length).map fun x => decide ((classJ t).getD x 0 = (j : Int))
def minJ (t : List (List Int)) (j : Nat) : Bool := (List.range (numJ t)).all fun k => decide (k = j) || !(inJB t (fstC (classJ t) j) (fstC (classJ t) k))
theorem inJ_len (t : List (List Int)) (j : Nat) : (inJ t j).length = t.length := by simp [inJ]
theorem inJ_get {t : List (List Int)} {j x : Nat} (hx : x < t.length) : (inJ t j).getD x false = decide ((classJ t).getD x 0 = (j : Int)) := by
  unfold inJ
  rw [List.getD, List.getElem?_map, List.getElem?_range hx]
  rfl
theorem elemsJ_eq {t : List (List Int)} {j : Nat} (hj : j < numJ t) : elemsJ t j = ((List.range t.length).filter fun i => (classJ t).getD i 0 = (j : Int)).map fun (i : Nat) => (i : Int) := by
  unfold elemsJ; rw [classes_getD hj, classJ_len]
theorem mem_elems {t : List (List Int)} {j : Nat} (hj : j < numJ t) {x : Int} : x ∈ elemsJ t j ↔ 0 ≤ x ∧ x < t.length ∧ (classJ t).getD x.toNat 0 = j := by
  unfold elemsJ; rw [mem_classes hj, classJ_len]
theorem elems_nodup {t : List (List Int)} {j : Nat} (hj : j < numJ t) : (elemsJ t j).Nodup := by
  rw [elemsJ_eq hj, List.Nodup, List.pairwise_map]
  refine List.Pairwise.imp ?_ (List.Pairwise.sublist List.filter_sublist List.nodup_range)
  intro a b h e
  exact h (by exact_mod_cast e)
theorem elems_le {t : List (List Int)} {j : Nat} (hj : j < numJ t) : (elemsJ t j).length ≤ t.length := by
  rw [elemsJ_eq hj, List.length_map]
  exact Nat.le_trans (List.length_filter_le _ _) (by simp)
theorem elems_pos {t : List (List Int)} {j : Nat} (hj : j < numJ t) : 0 < (elemsJ t j).length := (fstJ hj).1
theorem minJ_iff {t : List (List Int)} {j : Nat} : minJ t j = true ↔ ∀ k, k < numJ t → k ≠ j → inJB t (fstC (classJ t) j) (fstC (classJ t) k) = false := by
  unfold minJ
  rw [List.all_eq_true]
  constructor
  · intro h k hk hkj
    have := h k (List.mem_range.2 hk)
    simpa [hkj] using this
  · intro h k hk
    have hk := List.mem_range.1 hk
    by_cases hkj : k = j
    · simp [hkj]
    · simp [h k hk hkj]
theorem elems_lt {t : List (List Int)} {j : Nat} (hj : j < numJ t) (hm : minJ t j = false) : (elemsJ t j).length < t.length := by
  have : ∃ k, k < numJ t ∧ k ≠ j := by
    apply Classical.byContradiction
    intro hn
    have : minJ t j = true := minJ_iff.2 fun k hk hkj => absurd ⟨k, hk, hkj⟩ hn
    rw [this] at hm; cases hm
  obtain ⟨k, hk, hkj⟩ := this
  have f := fstJ hk
  rw [elemsJ_eq hj, List.length_map]
  have h1 := List.length_filter_lt_length_iff_exists (l := List.range t.length) (p := fun i => (classJ t).getD i 0 = (j : Int))
  rw [List.length_range] at h1
  refine h1.2 ⟨fstC (classJ t) k, List.mem_range.2 f.2.2.1, ?_⟩
  rw [f.2.2.2]
  simp
  omega
section
variable {t : List (List Int)} {j : Nat} (h : Semi t) (hj : j < numJ t)
include hj
include h
omit hj in
theorem below_r {a b : Nat} (ha : a < t.length) (hb : b < t.length) : inJB t a (en t a b) = true :=
  (inJB_iff h.toSh ha).2 ⟨a, ha, (preL h).refl a ha, (inRB_iff h.toSh ha).2 (.inr ⟨b, hb, rfl⟩)⟩
theorem min_stays (hm : minJ t j = true) {a b : Nat} (ha : a < t.length) (hb : b < t.length) (hc : (classJ t).getD a 0 = j) : (classJ t).getD (en t a b) 0 = j := by
  have hab := (h.toSh.ent ha hb).2
  have hr := classJ_lt t hab
  obtain ⟨k, hk⟩ : ∃ k : Nat, (classJ t).getD (en t a b) 0 = k := ⟨((classJ t).getD (en t a b) 0).toNat, by omega⟩
  have hkn : k < numJ t := by omega
  have fj := fstJ hj
  have fk := fstJ hkn
  have h1 := (classJ_iff h fj.2.2.1 ha).1 (fj.2.2.2.trans hc.symm)
  have h2 := (classJ_iff h hab fk.2.2.1).1 (hk.trans fk.2.2.2.symm)
  have h3 := (preJ h).trans _ _ _ fj.2.2.1 ha hab h1.1 (below_r h ha hb)
  have h4 := (preJ h).trans _ _ _ fj.2.2.1 hab fk.2.2.1 h3 h2.1
  by_cases hkj : k = j
  · rw [hk, hkj]
  · rw [minJ_iff.1 hm k hkn hkj] at h4; cases h4
end
end Go.Proofs.Ytpanlghofeebhaa
end
section
/- The reference's partitions (semigroupref03) and relations of Green (semigroupref15): contracts. -/
namespace Go.Proofs.Ytpanlghofeebhaa
open Go Go.AM
set_option maxRecDepth 100000
theorem rcanon_fn (p : List Int) : QF 110 [.ro (.ints .i64 p)] (.new (.ints .i64 (if p.length ≤ 4096 then canon p else []))) := mkQ Try.func110 (by decide +kernel) rfl (Nat.le_of_ble_eq_true rfl) fun _ => by
  refine And.intro (fun h1 => ?_) (fun h1 => ?_)
  · refine And.intro ?_ trivial
    rw [if_neg (by omega)]; rfl
  rw [if_pos (by omega)]
  refine And.intro (by omega) ?_
  refine And.intro (by omega) ?_
  refine Exists.intro [] <| lp3 (fun (i : Nat) (_ : List Int) (m : List (List Int × Int)) => [(19, .int .i64 i), (4, .int .i64 m.length)]) (fun _ q m => [(15, .vec 0 (.ints .i64 q) []), (16, .map (.int .i64) (some .i64) m)]) (fun i q m => CanInv (fun x => [x]) 0 p i q m) (fun i _ _ => p.length - i) 0 (List.replicate p.length 0) [] .start (by repeat' first | refine And.intro ?_ ?_ | exact True.intro | (show (_ : Int) = (_ : Int); omega) | omega | exact rfl | (simp only [RO.len]; omega)) ?_
  intro i q m H
  have hle := H.le
  have hlen := H.len
  have hml := H.mle
  refine And.intro (fun h2 => ?_) (fun h2 => ?_)
  · have hil : i < p.length := by omega
    refine And.intro (by omega) ?_
    refine And.intro (fun h3 => ?_) (fun h3 => ?_)
    · obtain ⟨e1, e2⟩ := H.isNew key1 hil h3
      have e3 : (setM m [p.getD i 0] m.length).length = m.length + 1 := by
        have : getM m [p.getD i 0] = none := by
          have h3 : (!(getM m [p.getD i 0]).isSome) = true := h3
          cases hg : getM m [p.getD i 0] with
          | none => rfl
          | some v => rw [hg] at h3; cases h3
        rw [setM_new this]; simp
      refine And.intro (by omega) ?_
      refine And.intro (by omega) ?_
      refine And.intro (by omega) ?_
      refine And.intro (by omega) ?_
      refine nx (i + 1, q.set i m.length, setM m [p.getD i 0] m.length) (H.next hil e1 e2) (show p.length - (i + 1) < p.length - i by omega) ?_
      refine And.intro (And.intro rfl (And.intro ?_ trivial)) ?_
      · show (m.length : Int) + 1 = ((setM m [p.getD i 0] m.length).length : Int)
        rw [e3]; rfl
      · repeat' first | refine And.intro ?_ ?_ | exact True.intro | (show (_ : Int) = (_ : Int); omega) | omega | exact rfl | (simp only [RO.len]; omega)
    · obtain ⟨e1, e2⟩ := H.isOld key1 hil h3
      refine And.intro (by omega) ?_
      refine And.intro (by omega) ?_
      refine And.intro (by omega) ?_
      exact nx (i + 1, q.set i _, m) (H.next hil e1 e2) (show p.length - (i + 1) < p.length - i by omega) (by repeat' first | refine And.intro ?_ ?_ | exact True.intro | (show (_ : Int) = (_ : Int); omega) | omega | exact rfl | (simp only [RO.len]; omega))
  · refine And.intro ?_ trivial
    refine And.intro (by omega) ?_
    rw [H.done (by omega)]
theorem rcount_fn (p : List Int) (hv : validP p) : QF 123 [.ro (.ints .i64 p)] (.int .i64 (classN p)) := mkQ Try.func123 (by decide +kernel) rfl (Nat.le_of_ble_eq_true rfl) fun _ => by
  have hst := (validP_iff.1 hv).2
  have hlen := hv.1
  refine Exists.intro [] <| lp2 (fun (i : Nat) (c : Nat) => [(8, .int .i64 i), (3, .int .i64 c)]) (fun _ _ => []) (fun i c => i ≤ p.length ∧ c = (firsts (p.take i)).length) (fun i _ => p.length - i) 0 0 ⟨Nat.zero_le _, by simp [firsts]⟩ (by repeat' first | refine And.intro ?_ ?_ | exact True.intro | (show (_ : Int) = (_ : Int); omega) | omega | exact rfl | (simp only [RO.len]; omega)) ?_
  rintro i c ⟨hi, hc⟩
  refine And.intro (fun h1 => ?_) (fun h1 => ?_)
  · have hil : i < p.length := by omega
    have hs := hst i hil
    have hs1 : 0 ≤ p.getD i 0 := hs.1
    have hs2 : p.getD i 0 ≤ (firsts (p.take i)).length := hs.2
    have hfn := firsts_next hil (fun j hj => hst j (by omega)) hs
    have hle := firsts_le (p.take i)
    rw [List.length_take] at hle
    refine And.intro (by omega) ?_
    refine And.intro (show -9223372036854775808 ≤ p.getD i 0 + 1 ∧ p.getD i 0 + 1 ≤ 9223372036854775807 by omega) ?_
    refine And.intro (show -9223372036854775808 ≤ (i : Int) + 1 ∧ (i : Int) + 1 ≤ 9223372036854775807 by omega) ?_
    refine nx (i + 1, (firsts (p.take (i + 1))).length) ⟨by omega, rfl⟩ (show p.length - (i + 1) < p.length - i by omega) ?_
    refine And.intro (And.intro rfl ?_) trivial
    refine And.intro ?_ trivial
    show max (c : Int) (p.getD i 0 + 1) = ((firsts (p.take (i + 1))).length : Nat)
    rw [hfn]
    split <;> omega
  · refine And.intro ?_ trivial
    show (c : Int) = classN p
    have : p.take i = p := List.take_of_length_le (by omega)
    rw [hc, this]; rfl
theorem rclasses_fn (p : List Int) (h : validP p) : QF 81 [.ro (.ints .i64 p)] (.ro (.rows .i64 (classes (classN p) p))) := mkQ Try.func81 (by decide +kernel) rfl (Nat.le_of_ble_eq_true rfl) fun _ => by
  have hlen := h.1
  have hrange : ∀ i, i < p.length → 0 ≤ p.getD i 0 ∧ p.getD i 0 < classN p := fun i hi => (valid_range h.2 _).2 (getD_mem hi)
  have hn : classN p ≤ p.length := firsts_le p
  refine Or.inl (cq (rcount_fn p h) (And.intro rfl trivial) ?_)
  refine And.intro (by omega) ?_
  refine And.intro (by omega) ?_
  refine Or.inr (Or.inl ?_)
  refine Exists.intro [] <| lp2 (fun (i : Nat) (_ : List (List Int)) => [(11, .int .i64 i)]) (fun _ c => [(8, .deep (.rows .i64 c) none)]) (fun i c => i ≤ p.length ∧ c.length = classN p ∧ ∀ k, k < classN p → c.getD k [] = upTo p i k) (fun i _ => p.length - i) 0 (List.replicate (classN p) []) ⟨Nat.zero_le _, by simp, fun k hk => by rw [upTo_zero]; simp [List.getD, hk]⟩ (by repeat' first | refine And.intro ?_ ?_ | exact True.intro | (show (_ : Int) = (_ : Int); omega) | omega | exact rfl | (simp only [RO.len]; omega)) ?_
  rintro i c ⟨hi, hc, hs⟩
  refine And.intro (fun h1 => ?_) (fun h1 => ?_)
  · have hil : i < p.length := by omega
    have hr := hrange i hil
    have hle := upTo_le p i (p.getD i 0).toNat
    rw [← hs (p.getD i 0).toNat (by omega)] at hle
    refine And.intro (by omega) ?_
    refine And.intro (show 0 ≤ p.getD i 0 ∧ p.getD i 0 < (c.length : Int) by omega) ?_
    refine And.intro (show ((c.getD (p.getD i 0).toNat [] ++ [(i : Int)]).length : Int) ≤ 17592186044416 by rw [List.length_append, List.length_singleton]; omega) ?_
    refine And.intro (show 0 ≤ p.getD i 0 ∧ p.getD i 0 < (c.length : Int) by omega) ?_
    refine And.intro rfl ?_
    refine And.intro (show -9223372036854775808 ≤ (i : Int) + 1 ∧ (i : Int) + 1 ≤ 9223372036854775807 by omega) ?_
    exact nx (i + 1, c.set (p.getD i 0).toNat (c.getD (p.getD i 0).toNat [] ++ [(i : Int)])) ⟨by omega, by rw [List.length_set]; exact hc, rows_next hc hs hr⟩ (show p.length - (i + 1) < p.length - i by omega) (by repeat' first | refine And.intro ?_ ?_ | exact True.intro | (show (_ : Int) = (_ : Int); omega) | omega | exact rfl | (simp only [RO.len]; omega))
  · refine And.intro ?_ trivial
    refine And.intro trivial ?_
    rw [rows_done hc hs (by omega)]
theorem canon_pairs {p q : List Int} (hl : p.length = q.length) (hq : ∀ i, i < q.length → 0 ≤ q.getD i 0 ∧ q.getD i 0 < 4096) {l : List Int} (hll : l.length = p.length) (h : ∀ i, i < p.length → l.getD i 0 = p.getD i 0 * 4096 + q.getD i 0) : canon l = canon (p.zip q) := by
  have hz : (p.zip q).length = p.length := by simp [hl]
  have zg : ∀ i, i < p.length → (p.zip q).getD i (0, 0) = (p.getD i 0, q.getD i 0) := fun i hi => by
    rw [getD_eq (by omega), getD_eq hi, getD_eq (by omega)]; simp
  refine canon_congr (d := 0) (e := (0, 0)) (by omega) fun i j hi hj => ?_
  rw [h i (by omega), h j (by omega), zg i (by omega), zg j (by omega)]
  have h1 := hq i (by omega)
  have h2 := hq j (by omega)
  constructor
  · intro he
    have e1 : p.getD i 0 = p.getD j 0 := by omega
    have e2 : q.getD i 0 = q.getD j 0 := by omega
    rw [e1, e2]
  · intro he
    have e1 := congrArg Prod.fst he
    have e2 := congrArg Prod.snd he
    simp only at e1 e2
    rw [e1, e2]
theorem rmeet_fn (p q : List Int) (hl : p.length = q.length) (hn : p.length ≤ 4096) (hp : ∀ i, i < p.length → 0 ≤ p.getD i 0 ∧ p.getD i 0 < 4096) (hq : ∀ i, i < q.length → 0 ≤ q.getD i 0 ∧ q.getD i 0 < 4096) :
    QF 122 [.ro (.ints .i64 p), .ro (.ints .i64 q)] (.new (.ints .i64 (canon (p.zip q)))) := mkQ Try.func122 (by decide +kernel) rfl (Nat.le_of_ble_eq_true rfl) fun _ => by
  refine And.intro (by omega) ?_
  refine And.intro (by omega) ?_
  refine Exists.intro [] <| lp2 (fun (i : Nat) (_ : List Int) => [(12, .int .i64 i)]) (fun _ l => [(9, .vec 0 (.ints .i64 l) [])]) (fun i l => i ≤ p.length ∧ l.length = p.length ∧ ∀ j, j < i → l.getD j 0 = p.getD j 0 * 4096 + q.getD j 0) (fun i _ => p.length - i) 0 (List.replicate p.length 0) ⟨Nat.zero_le _, by simp, fun j hj => absurd hj (Nat.not_lt_zero _)⟩ (by repeat' first | refine And.intro ?_ ?_ | exact True.intro | (show (_ : Int) = (_ : Int); omega) | omega | exact rfl | (simp only [RO.len]; omega)) ?_
  rintro i l ⟨hi, hll, hs⟩
  refine And.intro (fun h2 => ?_) (fun h2 => ?_)
  · have hil : i < p.length := by omega
    have h3 := hp i hil
    have h4 := hq i (by omega)
    refine Or.inl <| Exists.intro [false, false, false, false, false, false, false, false, false, false, false, false, false, true] (And.intro (by decide +kernel) ?_)
    refine And.intro (by omega) ?_
    refine And.intro (show -9223372036854775808 ≤ p.getD i 0 * 4096 ∧ p.getD i 0 * 4096 ≤ 9223372036854775807 by omega) ?_
    refine And.intro (by omega) ?_
    refine And.intro (show -9223372036854775808 ≤ p.getD i 0 * 4096 + q.getD i 0 ∧ p.getD i 0 * 4096 + q.getD i 0 ≤ 9223372036854775807 by omega) ?_
    refine And.intro (by omega) ?_
    refine And.intro (by omega) ?_
    refine And.intro (show -9223372036854775808 ≤ (i : Int) + 1 ∧ (i : Int) + 1 ≤ 9223372036854775807 by omega) ?_
    refine nx (i + 1, l.set i (p.getD i 0 * 4096 + q.getD i 0)) ⟨by omega, by rw [List.length_set]; exact hll, fun j hj => ?_⟩ (show p.length - (i + 1) < p.length - i by omega) (by repeat' first | refine And.intro ?_ ?_ | exact True.intro | (show (_ : Int) = (_ : Int); omega) | omega | exact rfl | (simp only [RO.len]; omega))
    by_cases hji : j = i
    · subst hji; rw [getD_set_eq (by omega)]
    · rw [getD_set_ne (Ne.symm hji)]; exact hs j (by omega)
  · refine Or.inl (cq (rcanon_fn l) (And.intro rfl trivial) ?_)
    refine And.intro ?_ trivial
    refine And.intro rfl ?_
    rw [if_pos (by omega), canon_pairs hl hq hll fun j hj => hs j (by omega)]
def setB (n : Nat) (f : Nat → Bool) : List Bool := (List.range n).map f
theorem setB_len (n : Nat) (f : Nat → Bool) : (setB n f).length = n := by simp [setB]
theorem setB_get {n : Nat} {f : Nat → Bool} {x : Nat} (hx : x < n) : (setB n f).getD x false = f x := by
  unfold setB
  rw [List.getD, List.getElem?_map, List.getElem?_range hx]; rfl
theorem setB_of {n : Nat} {f : Nat → Bool} {r : List Bool} (hl : r.length = n) (h : ∀ x, x < n → r.getD x false = f x) : r = setB n f := by
  refine List.ext_getElem (by rw [hl, setB_len]) fun j h1 h2 => ?_
  rw [← getD_eq (d := false) h1, ← getD_eq (d := false) h2, h j (by omega), setB_get (by omega)]
theorem setB_next {n i : Nat} {f : Nat → Bool} {r : List Bool} (hl : r.length = n) (h : ∀ x, x < n → r.getD x false = f x) (hi : i < n) : (r.set i true).length = n ∧ ∀ x, x < n → (r.set i true).getD x false = (f x || decide (x = i)) := by
  refine ⟨by rw [List.length_set]; exact hl, fun x hx => ?_⟩
  by_cases hxi : x = i
  · subst hxi; rw [getD_set_eq (by omega)]; simp
  · rw [getD_set_ne (Ne.symm hxi), h x hx]; simp [hxi]
theorem rep_false (n x : Nat) : (List.replicate n false).getD x false = false := by
  simp only [List.getD, List.getElem?_replicate]; split <;> rfl
theorem rset_k (l : List Int) (n : Nat) (hn : n ≤ 400) (hl : l.length ≤ 140737488355328) : fnK TY SP Try.f42 [.ro (.ints .i64 l), .int .i64 n] (.new (.bools (setB n fun x => l.contains (x : Int)))) := by
  refine And.intro (by omega) ?_
  refine And.intro (by omega) ?_
  refine Exists.intro [] <| lp2 (fun (i : Nat) (_ : List Bool) => [(12, .int .i64 i)]) (fun _ r => [(9, .vec 0 (.bools r) [])]) (fun i r => i ≤ l.length ∧ r.length = n ∧ ∀ x, x < n → r.getD x false = (l.take i).contains (x : Int)) (fun i _ => l.length - i) 0 (List.replicate n false) ⟨Nat.zero_le _, by simp, fun x hx => by rw [rep_false]; simp⟩ (by repeat' first | refine And.intro ?_ ?_ | exact True.intro | (show (_ : Int) = (_ : Int); omega) | omega | exact rfl | (simp only [RO.len]; omega)) ?_
  rintro i r ⟨hi, hr, hs⟩
  refine And.intro (fun h1 => ?_) (fun h1 => ?_)
  · have hil : i < l.length := by omega
    have skip : ¬ (0 ≤ l.getD i 0 ∧ l.getD i 0 < n) → ∀ x, x < n → r.getD x false = (l.take (i + 1)).contains (x : Int) := fun hno x hx => by
      rw [hs x hx, take_snoc (d := 0) hil, Bool.eq_iff_iff]
      simp only [List.contains_iff_mem, List.mem_append, List.mem_singleton]
      constructor
      · exact .inl
      · rintro (h | h)
        · exact h
        · omega
    refine And.intro (by omega) ?_
    refine And.intro (fun h2 => ?_) (fun h2 => ?_)
    · have h2 : 0 ≤ l.getD i 0 := h2
      refine And.intro (fun h3 => ?_) (fun h3 => ?_)
      · have h3 : l.getD i 0 < (n : Int) := h3
        refine And.intro (show 0 ≤ l.getD i 0 ∧ l.getD i 0 < (r.length : Int) by omega) ?_
        refine And.intro (show (0 : Int) ≤ l.getD i 0 by omega) ?_
        refine And.intro (by omega) ?_
        have hnx := setB_next hr hs (i := (l.getD i 0).toNat) (by omega)
        refine nx (i + 1, r.set (l.getD i 0).toNat true) ⟨by omega, hnx.1, fun x hx => ?_⟩ (show l.length - (i + 1) < l.length - i by omega) (by repeat' first | refine And.intro ?_ ?_ | exact True.intro | (show (_ : Int) = (_ : Int); omega) | omega | exact rfl | (simp only [RO.len]; omega))
        rw [hnx.2 x hx, take_snoc (d := 0) hil, Bool.eq_iff_iff]
        simp only [Bool.or_eq_true, decide_eq_true_eq, List.contains_iff_mem, List.mem_append, List.mem_singleton]
        exact or_congr Iff.rfl ⟨fun h => by omega, fun h => by omega⟩
      · have h3 : (n : Int) ≤ l.getD i 0 := h3
        refine And.intro (by omega) ?_
        exact nx (i + 1, r) ⟨by omega, hr, skip (by omega)⟩ (show l.length - (i + 1) < l.length - i by omega) (by repeat' first | refine And.intro ?_ ?_ | exact True.intro | (show (_ : Int) = (_ : Int); omega) | omega | exact rfl | (simp only [RO.len]; omega))
    · have h2 : l.getD i 0 < 0 := h2
      refine And.intro (by omega) ?_
      exact nx (i + 1, r) ⟨by omega, hr, skip (by omega)⟩ (show l.length - (i + 1) < l.length - i by omega) (by repeat' first | refine And.intro ?_ ?_ | exact True.intro | (show (_ : Int) = (_ : Int); omega) | omega | exact rfl | (simp only [RO.len]; omega))
  · refine And.intro ?_ trivial
    refine And.intro rfl ?_
    rw [setB_of hr fun x hx => by rw [hs x hx, List.take_of_length_le (by omega)]]
theorem rset_fn (l : List Int) (n : Nat) (hn : n ≤ 400) : QF 42 [.ro (.ints .i64 l), .int .i64 n] (.new (.bools (setB n fun x => l.contains (x : Int)))) := mkQ Try.func42 (by decide +kernel) rfl (Nat.le_of_ble_eq_true rfl) fun hf => rset_k l n hn hf.1.1
end Go.Proofs.Ytpanlghofeebhaa
end
