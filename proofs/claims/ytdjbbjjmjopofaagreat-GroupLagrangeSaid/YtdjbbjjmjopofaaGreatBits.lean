/- Sets as words of 64 bits: what the machine's operations on them come to. Plain; no program. -/
import Derived.Test.YtdjbbjjmjopofaaGreatBase
namespace Go.Proofs.YtdjbbjjmjopofaaGreat
open Go Go.AM

/-- A word of 64 bits. -/
def isW (w : Int) : Prop := 0 ≤ w ∧ w ≤ 18446744073709551615

theorem w_lt {w : Int} (h : isW w) : w.toNat < 2 ^ 64 := by have := h.2; omega
theorem ofInt_nat {w : Int} (h : isW w) : (BitVec.ofInt 64 w).toNat = w.toNat := by
  rw [BitVec.toNat_ofInt]
  have h1 := h.1
  have h2 := h.2
  have : w % ((2 ^ 64 : Nat) : Int) = w := Int.emod_eq_of_lt h1 (by omega)
  rw [this]

theorem or_w {a b : Int} (ha : isW a) (hb : isW b) : orI .u64 a b = ((a.toNat ||| b.toNat : Nat) : Int) := by
  unfold orI
  show IntKind.u64.wrap ((BitVec.ofInt 64 a ||| BitVec.ofInt 64 b).toNat : Int) = _
  rw [BitVec.toNat_or, ofInt_nat ha, ofInt_nat hb]
  apply wrap_in
  have := Nat.or_lt_two_pow (w_lt ha) (w_lt hb)
  constructor
  · show (0 : Int) ≤ _
    omega
  · show _ ≤ (18446744073709551615 : Int)
    omega

theorem and_i {a b : Int} (ha : 0 ≤ a ∧ a ≤ 9223372036854775807) (hb : 0 ≤ b ∧ b ≤ 9223372036854775807) : andI .i64 a b = ((a.toNat &&& b.toNat : Nat) : Int) := by
  unfold andI
  show IntKind.i64.wrap ((BitVec.ofInt 64 a &&& BitVec.ofInt 64 b).toNat : Int) = _
  rw [BitVec.toNat_and, ofInt_nat ⟨ha.1, by omega⟩, ofInt_nat ⟨hb.1, by omega⟩]
  apply wrap_in
  have := Nat.and_lt_two_pow (n := 63) a.toNat (show b.toNat < 2 ^ 63 by omega)
  constructor
  · show (-9223372036854775808 : Int) ≤ _
    omega
  · show _ ≤ (9223372036854775807 : Int)
    omega

/-- The place of a bit in its word. -/
theorem low6 {x : Nat} (hx : (x : Int) ≤ 9223372036854775807) : andI .i64 x 63 = ((x % 64 : Nat) : Int) := by
  rw [and_i ⟨by omega, hx⟩ ⟨by decide, by decide⟩]
  congr 1
  exact Nat.and_two_pow_sub_one_eq_mod x 6

theorem one_shl {i : Nat} (hi : i < 64) : shlI .u64 1 i = ((2 ^ i : Nat) : Int) := by
  unfold shlI
  have : min (i : Int).toNat (IntKind.u64.bits) = i := by simp [IntKind.bits]; omega
  rw [this]
  have hp : 2 ^ i ≤ 2 ^ 63 := Nat.pow_le_pow_right (by decide) (by omega)
  have e : (1 : Int) * 2 ^ i = ((2 ^ i : Nat) : Int) := by rw [Int.one_mul]; norm_cast
  rw [e]
  apply wrap_in
  constructor
  · exact Int.natCast_nonneg _
  · show _ ≤ (18446744073709551615 : Int)
    have : (2 : Nat) ^ 63 = 9223372036854775808 := by decide
    omega

/-- Is x in the set? -/
def bit (ws : List Int) (x : Nat) : Bool := (ws.getD (x / 64) 0).toNat.testBit (x % 64)
def wordsOk (ws : List Int) : Prop := ∀ w ∈ ws, isW w

/-- The set with x put in. -/
def addW (ws : List Int) (x : Nat) : List Int := ws.set (x / 64) (orI .u64 (ws.getD (x / 64) 0) (shlI .u64 1 (andI .i64 x 63)))
theorem addW_len (ws : List Int) (x : Nat) : (addW ws x).length = ws.length := by simp [addW]
theorem addW_word {ws : List Int} (hw : wordsOk ws) {x : Nat} (hx : x / 64 < ws.length) (hx2 : (x : Int) ≤ 9223372036854775807) :
    orI .u64 (ws.getD (x / 64) 0) (shlI .u64 1 (andI .i64 x 63)) = (((ws.getD (x / 64) 0).toNat ||| 2 ^ (x % 64) : Nat) : Int) ∧ isW (orI .u64 (ws.getD (x / 64) 0) (shlI .u64 1 (andI .i64 x 63))) := by
  have h := hw _ (getD_mem (d := 0) hx)
  have hp : 2 ^ (x % 64) ≤ 2 ^ 63 := Nat.pow_le_pow_right (by decide) (by omega)
  have h63 : (2 : Nat) ^ 63 = 9223372036854775808 := by decide
  have e : orI .u64 (ws.getD (x / 64) 0) (shlI .u64 1 (andI .i64 x 63)) = (((ws.getD (x / 64) 0).toNat ||| 2 ^ (x % 64) : Nat) : Int) := by
    rw [low6 hx2, one_shl (Nat.mod_lt _ (by decide)), or_w h ⟨Int.natCast_nonneg _, by omega⟩, Int.toNat_natCast]
  refine ⟨e, ?_⟩
  rw [e]
  have := Nat.or_lt_two_pow (n := 64) (w_lt h) (show 2 ^ (x % 64) < 2 ^ 64 by omega)
  exact ⟨by omega, by omega⟩
theorem addW_ok {ws : List Int} (hw : wordsOk ws) {x : Nat} (hx : x / 64 < ws.length) (hx2 : (x : Int) ≤ 9223372036854775807) : wordsOk (addW ws x) := fun w hm => by
  rcases List.mem_or_eq_of_mem_set hm with h | h
  · exact hw w h
  · rw [h]; exact (addW_word hw hx hx2).2
theorem addW_bit {ws : List Int} (hw : wordsOk ws) {x : Nat} (hx : x / 64 < ws.length) (hx2 : (x : Int) ≤ 9223372036854775807) (y : Nat) : bit (addW ws x) y = (bit ws y || decide (y = x)) := by
  unfold bit addW
  by_cases hxy : x / 64 = y / 64
  · rw [← hxy, getD_set_eq hx, (addW_word hw hx hx2).1, Int.toNat_natCast, Nat.testBit_or, Nat.testBit_two_pow]
    congr 1
    have h1 := Nat.div_add_mod x 64
    have h2 := Nat.div_add_mod y 64
    have : x % 64 = y % 64 ↔ y = x := by omega
    simp [this]
  · rw [getD_set_ne hxy]
    have : y ≠ x := fun e => hxy (by rw [e])
    simp [this]

theorem zero_bit (n x : Nat) : bit (List.replicate n 0) x = false := by
  unfold bit
  have : (List.replicate n (0 : Int)).getD (x / 64) 0 = 0 := by simp only [List.getD, List.getElem?_replicate]; split <;> rfl
  rw [this]; simp
theorem zero_ok (n : Nat) : wordsOk (List.replicate n 0) := fun w hw => by
  rw [List.eq_of_mem_replicate hw]; exact ⟨by decide, by decide⟩
end Go.Proofs.YtdjbbjjmjopofaaGreat
