/- The walk of the laws' helper turned: bits of a string are turned over. -/
import Derived.Test.YtlandlgjhnnaiaaSumL1
import Derived.RegionTactic
import Derived.BigRegion
set_option linter.unusedVariables false
set_option linter.unusedSimpArgs false
namespace Go.Proofs.Ytlandlgjhnnaiaa
open Go.RowKit SumMath
/-- bit k of the string is turned over -/
def flip1 (l : List UInt8) (k : Nat) : List UInt8 := l.set (k / 8) (l.getD (k / 8) 0 ^^^ UInt8.ofNat (2 ^ (k % 8)))
/-- the bits of mask, from bit at_ on, as far as they lie in the string: the first i of them -/
def flips (l : List UInt8) (at_ : Nat) (mask : BitVec 32) : Nat → List UInt8
  | 0 => l
  | i + 1 => if mask.getLsbD i = true ∧ at_ + i < 8 * l.length then flip1 (flips l at_ mask i) (at_ + i) else flips l at_ mask i
theorem flip1_length (l : List UInt8) (k : Nat) : (flip1 l k).length = l.length := by simp [flip1]
theorem flips_length (l : List UInt8) (at_ : Nat) (mask : BitVec 32) : ∀ i, (flips l at_ mask i).length = l.length
  | 0 => rfl
  | i + 1 => by
    rw [flips]
    split
    · rw [flip1_length, flips_length]
    · exact flips_length l at_ mask i
theorem bit_test (mask : BitVec 32) (j : Nat) : (bits .and .u32 ((mask.toNat : Int) / 2 ^ j) 1 == 1) = mask.getLsbD j := by
  have h1 : (mask.toNat : Int) / 2 ^ j = ((mask.toNat / 2 ^ j : Nat) : Int) := by
    rw [show (2 : Int) ^ j = ((2 ^ j : Nat) : Int) from (Int.natCast_pow 2 j).symm, Int.natCast_ediv]
  have h2 : mask.toNat / 2 ^ j ≤ mask.toNat := Nat.div_le_self _ _
  rw [h1, show (1 : Int) = ((1 : Nat) : Int) from rfl, u32_and_nat _ _ (Nat.lt_of_le_of_lt h2 mask.isLt) (by decide), nat_mask1, BitVec.getLsbD, Nat.testBit_eq_decide_div_mod_eq]
  rcases Nat.mod_two_eq_zero_or_one (mask.toNat / 2 ^ j) with h | h <;> rw [h] <;> simp
theorem flip_val (x : UInt8) (k : Nat) : bits .xor .u8 (x.toNat : Int) (2 ^ (k % 8) % 256) = ((x ^^^ UInt8.ofNat (2 ^ (k % 8))).toNat : Int) := by
  have h1 : 2 ^ (k % 8) < 256 := by
    have : k % 8 < 8 := Nat.mod_lt _ (by decide)
    calc 2 ^ (k % 8) ≤ 2 ^ 7 := Nat.pow_le_pow_right (by decide) (by omega)
      _ < 256 := by decide
  have h2 : (2 : Int) ^ (k % 8) % 256 = ((UInt8.ofNat (2 ^ (k % 8))).toNat : Int) := by
    rw [show (2 : Int) ^ (k % 8) = ((2 ^ (k % 8) : Nat) : Int) from (Int.natCast_pow 2 _).symm, UInt8.toNat_ofNat']
    omega
  rw [h2, xor_u8]
end Go.Proofs.Ytlandlgjhnnaiaa
