/- Bits: what the model's bit operations on 64 and 8 bits tell, as sums and remainders. -/
import Derived.Test.YtclafljkeaekfaaPkMath
import Derived.IntWalk
import Derived.Tactics
set_option linter.unusedVariables false
set_option linter.unusedSimpArgs false
namespace Go.Proofs.Ytclafljkeaekfaa
open Go.RowKit
theorem u64_wrap (n : Int) : IntKind.u64.wrap n = n % 18446744073709551616 := by simp [IntKind.wrap, IntKind.bits, IntKind.signed]
theorem u8_wrap (n : Int) : IntKind.u8.wrap n = n % 256 := by simp [IntKind.wrap, IntKind.bits, IntKind.signed]
theorem bv8_or : ∀ x : BitVec 8, (x ||| 128#8).toNat = x.toNat % 128 + 128 := by decide
theorem u8_or128 (v : Nat) : bits .or .u8 ((v : Int) % 256) 128 = ((UInt8.ofNat (v % 128 + 128)).toNat : Int) := by
  show IntKind.u8.wrap ((BitVec.ofInt 8 ((v : Int) % 256) ||| BitVec.ofInt 8 128).toNat : Nat) = _
  have e : BitVec.ofInt 8 128 = 128#8 := by decide
  rw [e, bv8_or, u8_wrap, BitVec.toNat_ofInt, ofNat_toNat _ (by omega)]
  omega
theorem u8_byte (v : Nat) (hv : v < 128) : (v : Int) % 256 = ((UInt8.ofNat v).toNat : Int) := by
  rw [ofNat_toNat _ (by omega)]; omega
theorem u64_xor0 (a : Nat) (ha : a < 18446744073709551616) : bits .xor .u64 (a : Int) 0 = (a : Int) := by
  show IntKind.u64.wrap ((BitVec.ofInt 64 (a : Int) ^^^ BitVec.ofInt 64 0).toNat : Nat) = _
  have e : BitVec.ofInt 64 0 = 0#64 := by decide
  rw [e, BitVec.xor_zero, u64_wrap, BitVec.toNat_ofInt]
  omega
theorem u64_xorAll (a : Nat) (ha : a < 18446744073709551616) : bits .xor .u64 (a : Int) 18446744073709551615 = ((18446744073709551615 - a : Nat) : Int) := by
  show IntKind.u64.wrap ((BitVec.ofInt 64 (a : Int) ^^^ BitVec.ofInt 64 18446744073709551615).toNat : Nat) = _
  have e : BitVec.ofInt 64 18446744073709551615 = BitVec.allOnes 64 := by decide
  rw [e, BitVec.xor_allOnes, u64_wrap, BitVec.toNat_not, BitVec.toNat_ofInt]
  omega
theorem u64_notx (a : Nat) (ha : a < 18446744073709551616) : bits .xor .u64 IntKind.u64.max (a : Int) = ((18446744073709551615 - a : Nat) : Int) := by
  have hm : IntKind.u64.max = 18446744073709551615 := by decide
  rw [hm]
  show IntKind.u64.wrap ((BitVec.ofInt 64 18446744073709551615 ^^^ BitVec.ofInt 64 (a : Int)).toNat : Nat) = _
  have e : BitVec.ofInt 64 18446744073709551615 = BitVec.allOnes 64 := by decide
  rw [e, BitVec.xor_comm, BitVec.xor_allOnes, u64_wrap, BitVec.toNat_not, BitVec.toNat_ofInt]
  omega
theorem zig (v : Int) (h1 : -9223372036854775808 ≤ v) (h2 : v < 9223372036854775808) :
    bits BinOp.xor IntKind.u64 (IntKind.u64.wrap (wrap64 (v * 2))) (IntKind.u64.wrap (v / 9223372036854775808)) = (zz v : Int) := by
  by_cases h : 0 ≤ v
  · have e1 : IntKind.u64.wrap (v / 9223372036854775808) = 0 := by rw [u64_wrap]; omega
    have e2 : IntKind.u64.wrap (wrap64 (v * 2)) = ((zz v : Nat) : Int) := by
      rw [u64_wrap, wrap64, zz, if_pos h]; omega
    rw [e1, e2, u64_xor0 _ (zz_lt v h1 h2)]
  · have e1 : IntKind.u64.wrap (v / 9223372036854775808) = 18446744073709551615 := by rw [u64_wrap]; omega
    have e2 : IntKind.u64.wrap (wrap64 (v * 2)) = ((18446744073709551615 - zz v : Nat) : Int) := by
      have := zz_lt v h1 h2
      rw [u64_wrap, wrap64]
      unfold zz at this ⊢
      rw [if_neg h] at this ⊢
      omega
    have := zz_lt v h1 h2
    rw [e1, e2, u64_xorAll _ (by omega)]
    omega
/-- acc | (b & 127) << (7 i), the groups apart -/
theorem or_apart (i a d : Nat) (ha : a < 2 ^ i) : (a ||| (d * 2 ^ i)) = a + d * 2 ^ i := by
  rw [Nat.mul_comm d, Nat.or_comm, ← Nat.two_pow_add_eq_or_of_lt ha]
  omega
theorem u64_or_apart (i a d : Nat) (ha : a < 2 ^ i) (hs : a + d * 2 ^ i < 18446744073709551616) : bits .or .u64 (a : Int) ((d * 2 ^ i : Nat) : Int) = ((a + d * 2 ^ i : Nat) : Int) := by
  show IntKind.u64.wrap ((BitVec.ofInt 64 (a : Int) ||| BitVec.ofInt 64 ((d * 2 ^ i : Nat) : Int)).toNat : Nat) = _
  rw [BitVec.toNat_or, BitVec.toNat_ofInt, BitVec.toNat_ofInt, u64_wrap]
  have e1 : ((a : Int) % ((2 ^ 64 : Nat) : Int)).toNat = a := by omega
  have e2 : (((d * 2 ^ i : Nat) : Int) % ((2 ^ 64 : Nat) : Int)).toNat = d * 2 ^ i := by omega
  rw [e1, e2, or_apart i a d ha]
  omega
theorem bv8_and : ∀ x : BitVec 8, (x &&& 127#8).toNat = x.toNat % 128 := by decide
theorem u8_and127 (x : UInt8) : bits .and .u8 (x.toNat : Int) 127 = ((x.toNat % 128 : Nat) : Int) := by
  show IntKind.u8.wrap ((BitVec.ofInt 8 (x.toNat : Int) &&& BitVec.ofInt 8 127).toNat : Nat) = _
  have e : BitVec.ofInt 8 127 = 127#8 := by decide
  have := x.toNat_lt
  rw [e, bv8_and, u8_wrap, BitVec.toNat_ofInt]
  omega
theorem u64_and127 (v : Nat) : bits .and .u64 (v : Int) 127 = ((v % 128 : Nat) : Int) := by
  show IntKind.u64.wrap ((BitVec.ofInt 64 (v : Int) &&& BitVec.ofInt 64 127).toNat : Nat) = _
  have e : BitVec.ofInt 64 127 = BitVec.ofNat 64 (2 ^ 7 - 1) := by decide
  rw [e, BitVec.toNat_and, BitVec.toNat_ofInt, BitVec.toNat_ofNat, Nat.mod_eq_of_lt (show 2 ^ 7 - 1 < 2 ^ 64 by decide), Nat.and_two_pow_sub_one_eq_mod, u64_wrap]
  omega
theorem bits_u64_nat (a b : Int) : ∃ r : Nat, bits .or .u64 a b = (r : Int) := by
  refine ⟨((BitVec.ofInt 64 a ||| BitVec.ofInt 64 b).toNat : Int).toNat, ?_⟩
  show IntKind.u64.wrap ((BitVec.ofInt 64 a ||| BitVec.ofInt 64 b).toNat : Nat) = _
  have := (BitVec.ofInt 64 a ||| BitVec.ofInt 64 b).isLt
  rw [u64_wrap]
  omega
theorem or_fact (acc i : Nat) (x : UInt8) (hi : i ≤ 9) (ha : acc < 128 ^ i) : ∃ r : Nat, bits .or .u64 (acc : Int) (IntKind.u64.wrap (IntKind.u64.wrap (bits .and .u8 (x.toNat : Int) 127) * 2 ^ (7 * i))) = (r : Int) ∧ ((i ≤ 8 ∨ x.toNat ≤ 1) → r = acc + 128 ^ i * (x.toNat % 128)) := by
  obtain ⟨r, hr⟩ := bits_u64_nat (acc : Int) (IntKind.u64.wrap (IntKind.u64.wrap (bits .and .u8 (x.toNat : Int) 127) * 2 ^ (7 * i)))
  refine ⟨r, hr, fun hs => ?_⟩
  obtain ⟨d, hd⟩ : ∃ d, d = x.toNat % 128 := ⟨_, rfl⟩
  have e1 : (128 : Nat) ^ i = 2 ^ (7 * i) := by rw [show (128 : Nat) = 2 ^ 7 by rfl, ← Nat.pow_mul]
  have hb : acc + d * 2 ^ (7 * i) < 18446744073709551616 := by
    rw [← e1]
    rcases hs with h8 | h1
    · have h2 : 128 ^ i ≤ 128 ^ 8 := Nat.pow_le_pow_right (by omega) h8
      have h3 : d * 128 ^ i ≤ 127 * 128 ^ 8 := Nat.mul_le_mul (by omega) h2
      have h4 : 128 ^ 8 + 127 * 128 ^ 8 < 18446744073709551616 := by decide
      omega
    · have h2 : 128 ^ i ≤ 128 ^ 9 := Nat.pow_le_pow_right (by omega) hi
      have h3 : d * 128 ^ i ≤ 1 * 128 ^ 9 := Nat.mul_le_mul (by omega) h2
      have h4 : 128 ^ 9 + 1 * 128 ^ 9 ≤ 18446744073709551616 := by decide
      omega
  have e2 : IntKind.u64.wrap (IntKind.u64.wrap (bits .and .u8 (x.toNat : Int) 127) * 2 ^ (7 * i)) = ((d * 2 ^ (7 * i) : Nat) : Int) := by
    rw [u8_and127, ← hd, IntWalk.u64_in (d : Int) (by omega)]
    have e3 : (d : Int) * 2 ^ (7 * i) = ((d * 2 ^ (7 * i) : Nat) : Int) := by simp
    rw [e3]
    exact IntWalk.u64_in _ (by omega)
  rw [e2, u64_or_apart (7 * i) acc d (by rw [← e1]; exact ha) hb] at hr
  have := Int.ofNat.inj hr
  rw [← this, e1, hd, Nat.mul_comm]
end Go.Proofs.Ytclafljkeaekfaa
