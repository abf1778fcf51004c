/- Numbers in bytes, plain. -/
import Derived.Test.YtlandlgjhnnaiaaAnMath
import Derived.Test.YtlandlgjhnnaiaaW
import Derived.IntWalk
import Derived.RowKit
set_option linter.unusedVariables false
set_option linter.unusedSimpArgs false
namespace Go.Proofs.Ytlandlgjhnnaiaa
open Go.RowKit
theorem i64_wrap_def (n : Int) : IntKind.i64.wrap n = if n % 18446744073709551616 ≥ 9223372036854775808 then n % 18446744073709551616 - 18446744073709551616 else n % 18446744073709551616 := by
  simp [IntKind.wrap, IntKind.bits, IntKind.signed]
theorem i64_wrap_mod (n : Int) : IntKind.i64.wrap n % 18446744073709551616 = n % 18446744073709551616 := by
  rw [i64_wrap_def]; split <;> omega
theorem i64_wrap_congr {a b : Int} (h : a % 18446744073709551616 = b % 18446744073709551616) : IntKind.i64.wrap a = IntKind.i64.wrap b := by
  rw [i64_wrap_def, i64_wrap_def, h]
theorem wrap64_mod (n : Int) : wrap64 n % 18446744073709551616 = n % 18446744073709551616 := by
  unfold wrap64; omega
theorem or_apart' (i a d : Nat) (ha : a < 2 ^ i) : (a ||| (d * 2 ^ i)) = a + d * 2 ^ i := by
  rw [Nat.mul_comm d, Nat.or_comm, ← Nat.two_pow_add_eq_or_of_lt ha]
  omega
theorem i64_or (p q : Int) (a b : Nat) (hp : p % 18446744073709551616 = (a : Int)) (hq : q % 18446744073709551616 = (b : Int)) : bits .or .i64 p q = IntKind.i64.wrap ((a ||| b : Nat) : Int) := by
  show IntKind.i64.wrap ((BitVec.ofInt 64 p ||| BitVec.ofInt 64 q).toNat : Nat) = _
  rw [BitVec.toNat_or, BitVec.toNat_ofInt, BitVec.toNat_ofInt]
  have e1 : (p % ((2 ^ 64 : Nat) : Int)).toNat = a := by omega
  have e2 : (q % ((2 ^ 64 : Nat) : Int)).toNat = b := by omega
  rw [e1, e2]
theorem p256 (i : Nat) : 256 ^ i = 2 ^ (8 * i) := by rw [Nat.pow_mul]
/-- one byte more, above the others -/
theorem or_up (a i : Nat) (x : UInt8) (ha : a < 256 ^ i) (hi : i ≤ 7) (q : Int) (hq : q % 18446744073709551616 = ((x.toNat * 256 ^ i : Nat) : Int) % 18446744073709551616) : bits .or .i64 (IntKind.i64.wrap (a : Int)) q = IntKind.i64.wrap ((a + x.toNat * 256 ^ i : Nat) : Int) := by
  have hx := x.toNat_lt
  have h7 : 256 ^ i ≤ 256 ^ 7 := Nat.pow_le_pow_right (by decide) hi
  have h8 : (256 : Nat) ^ 7 = 72057594037927936 := by decide
  have hb : x.toNat * 256 ^ i ≤ 255 * 256 ^ i := Nat.mul_le_mul_right _ (by omega)
  rw [i64_or _ _ a (x.toNat * 256 ^ i) (by rw [i64_wrap_mod]; omega) (by rw [hq]; omega), p256, or_apart' _ _ _ (by rw [← p256]; exact ha)]
/-- one byte more, below the others -/
theorem or_down (V : Nat) (x : UInt8) (hV : V < 256 ^ 7) (p : Int) (hp : p % 18446744073709551616 = ((V * 256 : Nat) : Int) % 18446744073709551616) : bits .or .i64 p (x.toNat : Int) = IntKind.i64.wrap ((x.toNat + 256 * V : Nat) : Int) := by
  have hx := x.toNat_lt
  have h8 : (256 : Nat) ^ 7 = 72057594037927936 := by decide
  rw [i64_or _ _ (V * 256) x.toNat (by rw [hp]; omega) (by omega), Nat.or_comm, show V * 256 = V * 2 ^ 8 from rfl, or_apart' 8 _ _ (by omega)]
  congr 2; omega
theorem leN_append : ∀ (l m : List UInt8), leN (l ++ m) = leN l + 256 ^ l.length * leN m
  | [], m => by simp [leN]
  | x :: r, m => by
    rw [List.cons_append, leN, leN, leN_append r m, List.length_cons, Nat.pow_succ, Nat.mul_add, ← Nat.mul_assoc, Nat.mul_comm 256 (256 ^ r.length)]; omega
theorem leN_take_succ (l : List UInt8) (i : Nat) (h : i < l.length) : leN (l.take (i + 1)) = leN (l.take i) + (l.getD i 0).toNat * 256 ^ i := by
  rw [take_snoc l i 0 h, leN_append, List.length_take, Nat.min_eq_left (by omega)]
  simp only [leN]
  rw [Nat.mul_comm]; simp
theorem leN_drop (l : List UInt8) (i : Nat) (h : i < l.length) : leN (l.drop i) = (l.getD i 0).toNat + 256 * leN (l.drop (i + 1)) := by
  rw [List.drop_eq_getElem_cons h, leN, List.getD_eq_getElem?_getD, List.getElem?_eq_getElem h]; rfl
theorem seg_getD (L : List UInt8) (at_ k i : Nat) (hi : i < k) : (seg L at_ k).getD i 0 = L.getD (at_ + i) 0 := by
  rw [List.getD_eq_getElem?_getD, List.getD_eq_getElem?_getD, seg_get, if_pos hi]
end Go.Proofs.Ytlandlgjhnnaiaa
