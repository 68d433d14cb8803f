/- Sets as words of 64 bits: what the machine's operations on them come to. Plain; no program. -/
import Derived.Test.YteopelpnpdbbcaaBase
namespace Go.Proofs.Yteopelpnpdbbcaa
open Go Go.AM

/-- A word of 64 bits. -/
def isW (w : Int) : Prop := 0 ≤ w ∧ w ≤ 18446744073709551615

theorem w_lt {w : Int} (h : isW w) : w.toNat < 2 ^ 64 := by have := h.2; omega
theorem w_nat {w : Int} (h : isW w) : (w.toNat : Int) = w := by have := h.1; omega

theorem ofInt_nat {w : Int} (h : isW w) : (BitVec.ofInt 64 w).toNat = w.toNat := by
  rw [BitVec.toNat_ofInt]
  have h1 := h.1
  have h2 := h.2
  have : w % ((2 ^ 64 : Nat) : Int) = w := Int.emod_eq_of_lt h1 (by omega)
  rw [this]

theorem or_w {a b : Int} (ha : isW a) (hb : isW b) : orI .u64 a b = ((a.toNat ||| b.toNat : Nat) : Int) := by
  unfold orI
  show IntKind.u64.wrap ((BitVec.ofInt 64 a ||| BitVec.ofInt 64 b).toNat : Int) = _
  rw [BitVec.toNat_or, ofInt_nat ha, ofInt_nat hb]
  apply wrap_in
  have := Nat.or_lt_two_pow (w_lt ha) (w_lt hb)
  constructor
  · show (0 : Int) ≤ _
    omega
  · show _ ≤ (18446744073709551615 : Int)
    omega

theorem and_w {a b : Int} (ha : isW a) (hb : isW b) : andI .u64 a b = ((a.toNat &&& b.toNat : Nat) : Int) := by
  unfold andI
  show IntKind.u64.wrap ((BitVec.ofInt 64 a &&& BitVec.ofInt 64 b).toNat : Int) = _
  rw [BitVec.toNat_and, ofInt_nat ha, ofInt_nat hb]
  apply wrap_in
  have := Nat.and_lt_two_pow (n := 64) a.toNat (w_lt hb)
  constructor
  · show (0 : Int) ≤ _
    omega
  · show _ ≤ (18446744073709551615 : Int)
    omega

theorem and_i {a b : Int} (ha : 0 ≤ a ∧ a ≤ 9223372036854775807) (hb : 0 ≤ b ∧ b ≤ 9223372036854775807) : andI .i64 a b = ((a.toNat &&& b.toNat : Nat) : Int) := by
  unfold andI
  show IntKind.i64.wrap ((BitVec.ofInt 64 a &&& BitVec.ofInt 64 b).toNat : Int) = _
  rw [BitVec.toNat_and, ofInt_nat ⟨ha.1, by omega⟩, ofInt_nat ⟨hb.1, by omega⟩]
  apply wrap_in
  have := Nat.and_lt_two_pow (n := 63) a.toNat (show b.toNat < 2 ^ 63 by omega)
  constructor
  · show (-9223372036854775808 : Int) ≤ _
    omega
  · show _ ≤ (9223372036854775807 : Int)
    omega

/-- The place of a bit in its word. -/
theorem low6 {x : Nat} (hx : (x : Int) ≤ 9223372036854775807) : andI .i64 x 63 = ((x % 64 : Nat) : Int) := by
  rw [and_i ⟨by omega, hx⟩ ⟨by decide, by decide⟩]
  congr 1
  exact Nat.and_two_pow_sub_one_eq_mod x 6

theorem shr_nat {k : IntKind} (hk : k = .i64 ∨ k = .u64) (x i : Nat) (hi : i < 64) : shrI k x i = ((x / 2 ^ i : Nat) : Int) := by
  unfold shrI
  have : min (i : Int).toNat k.bits = i := by rcases hk with rfl | rfl <;> simp [IntKind.bits] <;> omega
  rw [this]
  exact (Int.natCast_ediv x (2 ^ i)).symm ▸ (by rw [Int.fdiv_eq_ediv_of_nonneg]; · norm_cast
                                                · exact Int.le_of_lt (Int.pow_pos (by decide)))

theorem word6 (x : Nat) : shrI .i64 x 6 = ((x / 64 : Nat) : Int) := shr_nat (.inl rfl) x 6 (by decide)

theorem one_shl {i : Nat} (hi : i < 64) : shlI .u64 1 i = ((2 ^ i : Nat) : Int) := by
  unfold shlI
  have : min (i : Int).toNat (IntKind.u64.bits) = i := by simp [IntKind.bits]; omega
  rw [this]
  have hp : 2 ^ i ≤ 2 ^ 63 := Nat.pow_le_pow_right (by decide) (by omega)
  have e : (1 : Int) * 2 ^ i = ((2 ^ i : Nat) : Int) := by rw [Int.one_mul]; norm_cast
  rw [e]
  apply wrap_in
  constructor
  · exact Int.natCast_nonneg _
  · show _ ≤ (18446744073709551615 : Int)
    have : (2 : Nat) ^ 63 = 9223372036854775808 := by decide
    omega

/-- Is x in the set? -/
def bit (ws : List Int) (x : Nat) : Bool := (ws.getD (x / 64) 0).toNat.testBit (x % 64)
def wordsOk (ws : List Int) : Prop := ∀ w ∈ ws, isW w

theorem bit_has {ws : List Int} (hw : wordsOk ws) {x : Nat} (hx : x / 64 < ws.length) (hx2 : (x : Int) ≤ 9223372036854775807) :
    andI .u64 (shrI .u64 (ws.getD (x / 64) 0) (andI .i64 x 63)) 1 = 1 ↔ bit ws x = true := by
  have h := hw _ (getD_mem (d := 0) hx)
  rw [low6 hx2]
  rw [← w_nat h, shr_nat (.inr rfl) _ _ (Nat.mod_lt _ (by decide))]
  rw [and_w ⟨Int.natCast_nonneg _, ?_⟩ ⟨by decide, by decide⟩]
  · unfold bit
    rw [Nat.testBit_eq_decide_div_mod_eq, decide_eq_true_eq]
    have e : ((((ws.getD (x / 64) 0).toNat / 2 ^ (x % 64) : Nat) : Int).toNat &&& (1 : Int).toNat) = (ws.getD (x / 64) 0).toNat / 2 ^ (x % 64) % 2 := by
      rw [Int.toNat_natCast]
      exact Nat.and_two_pow_sub_one_eq_mod _ 1
    rw [e]
    constructor
    · intro h; exact_mod_cast h
    · intro h; rw [h]; rfl
  · have h1 := Nat.div_le_self (ws.getD (x / 64) 0).toNat (2 ^ (x % 64))
    have h2 := w_lt h
    omega

/-- The set with x put in. -/
def addW (ws : List Int) (x : Nat) : List Int := ws.set (x / 64) (orI .u64 (ws.getD (x / 64) 0) (shlI .u64 1 (andI .i64 x 63)))
theorem addW_len (ws : List Int) (x : Nat) : (addW ws x).length = ws.length := by simp [addW]
theorem addW_word {ws : List Int} (hw : wordsOk ws) {x : Nat} (hx : x / 64 < ws.length) (hx2 : (x : Int) ≤ 9223372036854775807) :
    orI .u64 (ws.getD (x / 64) 0) (shlI .u64 1 (andI .i64 x 63)) = (((ws.getD (x / 64) 0).toNat ||| 2 ^ (x % 64) : Nat) : Int) ∧ isW (orI .u64 (ws.getD (x / 64) 0) (shlI .u64 1 (andI .i64 x 63))) := by
  have h := hw _ (getD_mem (d := 0) hx)
  have hp : 2 ^ (x % 64) ≤ 2 ^ 63 := Nat.pow_le_pow_right (by decide) (by omega)
  have h63 : (2 : Nat) ^ 63 = 9223372036854775808 := by decide
  have e : orI .u64 (ws.getD (x / 64) 0) (shlI .u64 1 (andI .i64 x 63)) = (((ws.getD (x / 64) 0).toNat ||| 2 ^ (x % 64) : Nat) : Int) := by
    rw [low6 hx2, one_shl (Nat.mod_lt _ (by decide)), or_w h ⟨Int.natCast_nonneg _, by omega⟩, Int.toNat_natCast]
  refine ⟨e, ?_⟩
  rw [e]
  have := Nat.or_lt_two_pow (n := 64) (w_lt h) (show 2 ^ (x % 64) < 2 ^ 64 by omega)
  exact ⟨by omega, by omega⟩
theorem addW_ok {ws : List Int} (hw : wordsOk ws) {x : Nat} (hx : x / 64 < ws.length) (hx2 : (x : Int) ≤ 9223372036854775807) : wordsOk (addW ws x) := fun w hm => by
  rcases List.mem_or_eq_of_mem_set hm with h | h
  · exact hw w h
  · rw [h]; exact (addW_word hw hx hx2).2
theorem addW_bit {ws : List Int} (hw : wordsOk ws) {x : Nat} (hx : x / 64 < ws.length) (hx2 : (x : Int) ≤ 9223372036854775807) (y : Nat) : bit (addW ws x) y = (bit ws y || decide (y = x)) := by
  unfold bit addW
  by_cases hxy : x / 64 = y / 64
  · rw [← hxy, getD_set_eq hx, (addW_word hw hx hx2).1, Int.toNat_natCast, Nat.testBit_or, Nat.testBit_two_pow]
    congr 1
    have h1 := Nat.div_add_mod x 64
    have h2 := Nat.div_add_mod y 64
    have : x % 64 = y % 64 ↔ y = x := by omega
    simp [this]
  · rw [getD_set_ne hxy]
    have : y ≠ x := fun e => hxy (by rw [e])
    simp [this]

/-- Two sets together, the words up to k. -/
def uniteW (a b : List Int) (k : Nat) : List Int := (List.range a.length).map fun i => if i < k then orI .u64 (a.getD i 0) (b.getD i 0) else a.getD i 0
theorem uniteW_zero (a b : List Int) : uniteW a b 0 = a := by
  refine List.ext_getElem (by simp [uniteW]) fun j h1 h2 => ?_
  simp [uniteW, List.getD, h2]
theorem uniteW_len (a b : List Int) (k : Nat) : (uniteW a b k).length = a.length := by simp [uniteW]
theorem uniteW_get {a b : List Int} {k i : Nat} (hi : i < a.length) : (uniteW a b k).getD i 0 = if i < k then orI .u64 (a.getD i 0) (b.getD i 0) else a.getD i 0 := by
  simp only [uniteW, List.getD, List.getElem?_map, List.getElem?_range hi, Option.map_some, Option.getD_some]
theorem uniteW_next {a b : List Int} {k : Nat} (hk : k < a.length) : (uniteW a b k).set k (orI .u64 ((uniteW a b k).getD k 0) (b.getD k 0)) = uniteW a b (k + 1) := by
  refine List.ext_getElem (by simp [uniteW]) fun j h1 h2 => ?_
  have hj : j < a.length := by simpa [uniteW] using h2
  have e : ∀ {l : List Int} {h : j < l.length}, l[j] = l.getD j 0 := fun {l h} => by simp [List.getD, h]
  rw [e, e, uniteW_get hj]
  by_cases hjk : j = k
  · subst hjk
    rw [getD_set_eq (by rw [uniteW_len]; exact hj), uniteW_get hj, if_neg (Nat.lt_irrefl _), if_pos (Nat.lt_succ_self _)]
  · rw [getD_set_ne (Ne.symm hjk), uniteW_get hj]
    by_cases h : j < k
    · rw [if_pos h, if_pos (by omega)]
    · rw [if_neg h, if_neg (by omega)]
theorem uniteW_ok {a b : List Int} (ha : wordsOk a) (hb : wordsOk b) (hl : a.length = b.length) : wordsOk (uniteW a b a.length) := fun w hm => by
  obtain ⟨i, hi, rfl⟩ := mem_getD 0 hm
  rw [uniteW_len] at hi
  rw [uniteW_get hi, if_pos hi]
  have h1 := ha _ (getD_mem (d := 0) hi)
  have h2 := hb _ (getD_mem (d := 0) (hl ▸ hi))
  rw [or_w h1 h2]
  have := Nat.or_lt_two_pow (w_lt h1) (w_lt h2)
  exact ⟨by omega, by omega⟩
theorem uniteW_bit {a b : List Int} (ha : wordsOk a) (hb : wordsOk b) (hl : a.length = b.length) {x : Nat} (hx : x / 64 < a.length) : bit (uniteW a b a.length) x = (bit a x || bit b x) := by
  unfold bit
  have h1 := ha _ (getD_mem (d := 0) hx)
  have h2 := hb _ (getD_mem (d := 0) (hl ▸ hx))
  rw [uniteW_get hx, if_pos hx, or_w h1 h2, Int.toNat_natCast, Nat.testBit_or]
theorem zero_bit (n x : Nat) : bit (List.replicate n 0) x = false := by
  unfold bit
  have : (List.replicate n (0 : Int)).getD (x / 64) 0 = 0 := by simp only [List.getD, List.getElem?_replicate]; split <;> rfl
  rw [this]; simp
theorem zero_ok (n : Nat) : wordsOk (List.replicate n 0) := fun w hw => by
  rw [List.eq_of_mem_replicate hw]; exact ⟨by decide, by decide⟩
end Go.Proofs.Yteopelpnpdbbcaa
