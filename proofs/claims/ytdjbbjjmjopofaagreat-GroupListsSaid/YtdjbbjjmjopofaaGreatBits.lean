/- Sets as words of 64 bits: what the machine's operations on them come to. Plain; no program. -/
import Derived.Test.YtdjbbjjmjopofaaGreatBase
namespace Go.Proofs.YtdjbbjjmjopofaaGreat
open Go Go.AM

/-- A word of 64 bits. -/
def isW (w : Int) : Prop := 0 ≤ w ∧ w ≤ 18446744073709551615

theorem w_lt {w : Int} (h : isW w) : w.toNat < 2 ^ 64 := by have := h.2; omega
theorem ofInt_nat {w : Int} (h : isW w) : (BitVec.ofInt 64 w).toNat = w.toNat := by
  rw [BitVec.toNat_ofInt]
  have h1 := h.1
  have h2 := h.2
  have : w % ((2 ^ 64 : Nat) : Int) = w := Int.emod_eq_of_lt h1 (by omega)
  rw [this]

theorem or_w {a b : Int} (ha : isW a) (hb : isW b) : orI .u64 a b = ((a.toNat ||| b.toNat : Nat) : Int) := by
  unfold orI
  show IntKind.u64.wrap ((BitVec.ofInt 64 a ||| BitVec.ofInt 64 b).toNat : Int) = _
  rw [BitVec.toNat_or, ofInt_nat ha, ofInt_nat hb]
  apply wrap_in
  have := Nat.or_lt_two_pow (w_lt ha) (w_lt hb)
  constructor
  · show (0 : Int) ≤ _
    omega
  · show _ ≤ (18446744073709551615 : Int)
    omega

theorem one_shl {i : Nat} (hi : i < 64) : shlI .u64 1 i = ((2 ^ i : Nat) : Int) := by
  unfold shlI
  have : min (i : Int).toNat (IntKind.u64.bits) = i := by simp [IntKind.bits]; omega
  rw [this]
  have hp : 2 ^ i ≤ 2 ^ 63 := Nat.pow_le_pow_right (by decide) (by omega)
  have e : (1 : Int) * 2 ^ i = ((2 ^ i : Nat) : Int) := by rw [Int.one_mul]; norm_cast
  rw [e]
  apply wrap_in
  constructor
  · exact Int.natCast_nonneg _
  · show _ ≤ (18446744073709551615 : Int)
    have : (2 : Nat) ^ 63 = 9223372036854775808 := by decide
    omega

end Go.Proofs.YtdjbbjjmjopofaaGreat
