/- Walks of the laws' helpers dup and same. -/
import Derived.Test.YtggoaelbglhehaaMgA12
import Derived.RegionTactic
import Derived.BigRegion
/- Walks of the laws' helpers dup and same. -/
set_option linter.unusedVariables false
set_option linter.unusedSimpArgs false
namespace Go.Proofs.Ytggoaelbglhehaa
open Go.RowKit SumMath
theorem toByteArray_ext {a b : ByteArray} (h : a.data.toList = b.data.toList) : a = b := by
  cases a; cases b; congr 1; exact Array.toList_inj.1 h
end Go.Proofs.Ytggoaelbglhehaa
/- The walk of the laws' helper turned: bits of a string are turned over. -/
set_option linter.unusedVariables false
set_option linter.unusedSimpArgs false
namespace Go.Proofs.Ytggoaelbglhehaa
open Go.RowKit SumMath
/-- bit k of the string is turned over -/
def flip1 (l : List UInt8) (k : Nat) : List UInt8 := l.set (k / 8) (l.getD (k / 8) 0 ^^^ UInt8.ofNat (2 ^ (k % 8)))
/-- the bits of mask, from bit at_ on, as far as they lie in the string: the first i of them -/
def flips (l : List UInt8) (at_ : Nat) (mask : BitVec 32) : Nat → List UInt8
  | 0 => l
  | i + 1 => if mask.getLsbD i = true ∧ at_ + i < 8 * l.length then flip1 (flips l at_ mask i) (at_ + i) else flips l at_ mask i
theorem flip1_length (l : List UInt8) (k : Nat) : (flip1 l k).length = l.length := by simp [flip1]
theorem flips_length (l : List UInt8) (at_ : Nat) (mask : BitVec 32) : ∀ i, (flips l at_ mask i).length = l.length
  | 0 => rfl
  | i + 1 => by
    rw [flips]
    split
    · rw [flip1_length, flips_length]
    · exact flips_length l at_ mask i
theorem bit_test (mask : BitVec 32) (j : Nat) : (bits .and .u32 ((mask.toNat : Int) / 2 ^ j) 1 == 1) = mask.getLsbD j := by
  have h1 : (mask.toNat : Int) / 2 ^ j = ((mask.toNat / 2 ^ j : Nat) : Int) := by
    rw [show (2 : Int) ^ j = ((2 ^ j : Nat) : Int) from (Int.natCast_pow 2 j).symm, Int.natCast_ediv]
  have h2 : mask.toNat / 2 ^ j ≤ mask.toNat := Nat.div_le_self _ _
  rw [h1, show (1 : Int) = ((1 : Nat) : Int) from rfl, u32_and_nat _ _ (Nat.lt_of_le_of_lt h2 mask.isLt) (by decide), nat_mask1, BitVec.getLsbD, Nat.testBit_eq_decide_div_mod_eq]
  rcases Nat.mod_two_eq_zero_or_one (mask.toNat / 2 ^ j) with h | h <;> rw [h] <;> simp
theorem flip_val (x : UInt8) (k : Nat) : bits .xor .u8 (x.toNat : Int) (2 ^ (k % 8) % 256) = ((x ^^^ UInt8.ofNat (2 ^ (k % 8))).toNat : Int) := by
  have h1 : 2 ^ (k % 8) < 256 := by
    have : k % 8 < 8 := Nat.mod_lt _ (by decide)
    calc 2 ^ (k % 8) ≤ 2 ^ 7 := Nat.pow_le_pow_right (by decide) (by omega)
      _ < 256 := by decide
  have h2 : (2 : Int) ^ (k % 8) % 256 = ((UInt8.ofNat (2 ^ (k % 8))).toNat : Int) := by
    rw [show (2 : Int) ^ (k % 8) = ((2 ^ (k % 8) : Nat) : Int) from (Int.natCast_pow 2 _).symm, UInt8.toNat_ofNat']
    omega
  rw [h2, xor_u8]
end Go.Proofs.Ytggoaelbglhehaa
/- The plain mathematics of bursts: what differs within 32 bits has another sum. -/
set_option linter.unusedVariables false
set_option linter.unusedSimpArgs false
namespace Go.Proofs.Ytggoaelbglhehaa
open SumMath
theorem Tn_pow2 (r : Nat) (h : r < 32) : Tn r (BitVec.twoPow 32 r) = 1#32 := by
  have : ∀ r, r < 32 → Tn r (BitVec.twoPow 32 r) = 1#32 := by decide
  exact this r h
theorem byte_pow2 (r : Nat) (h : r < 8) : BitVec.ofNat 32 (UInt8.ofNat (2 ^ r)).toNat = BitVec.twoPow 32 r := by
  have : ∀ r, r < 8 → BitVec.ofNat 32 (UInt8.ofNat (2 ^ r)).toNat = BitVec.twoPow 32 r := by decide
  exact this r h
theorem xor_byte32 (a b : UInt8) : BitVec.ofNat 32 (a ^^^ b).toNat = BitVec.ofNat 32 a.toNat ^^^ BitVec.ofNat 32 b.toNat := by
  rw [UInt8.toNat_xor]
  apply BitVec.eq_of_getLsbD_eq; intro i hi; simp [BitVec.getLsbD_ofNat, Nat.testBit_xor]
/-- one bit turned over -/
theorem ov_flip1 (x : BitVec 32) (l : List UInt8) (k : Nat) (h : k < 8 * l.length) : ov x (flip1 l k) = ov x l ^^^ Tn (8 * l.length - k) 1#32 := by
  have hk : k / 8 < l.length := by omega
  have e1 : l = l.take (k / 8) ++ [l.getD (k / 8) 0] ++ l.drop (k / 8 + 1) := by
    rw [← take_snoc l (k / 8) 0 hk, List.take_append_drop]
  have e2 : flip1 l k = l.take (k / 8) ++ [l.getD (k / 8) 0 ^^^ UInt8.ofNat (2 ^ (k % 8))] ++ l.drop (k / 8 + 1) := by
    unfold flip1
    rw [List.set_eq_take_append_cons_drop, if_pos hk]
    simp
  have hq : (l.drop (k / 8 + 1)).length = l.length - (k / 8 + 1) := by simp
  conv => rhs; rw [e1]
  rw [e2, ov_append, ov_snoc, ov_append, ov_snoc]
  generalize ov x (l.take (k / 8)) = y
  generalize l.getD (k / 8) 0 = c
  have hb : by1 y (c ^^^ UInt8.ofNat (2 ^ (k % 8))) = by1 y c ^^^ Tn 8 (BitVec.twoPow 32 (k % 8)) := by
    unfold by1
    rw [xor_byte32, byte_pow2 _ (Nat.mod_lt _ (by decide)), ← Tn_xor]
    congr 1; ac_rfl
  rw [hb, ov_lin, hq, ← Tn_add]
  congr 1
  have hlen : (l.take (k / 8) ++ [c] ++ l.drop (k / 8 + 1)).length = l.length := by simp; omega
  rw [hlen]
  have h2 := Tn_pow2 (k % 8) (by have := Nat.mod_lt k (show 0 < 8 by decide); omega)
  rw [show 8 * (l.length - (k / 8 + 1)) + 8 = (8 * l.length - k) + k % 8 by omega, Tn_add, h2]
/-- the part of the mask that lies in the string -/
def part (mask : BitVec 32) (N : Nat) : Nat → BitVec 32
  | 0 => 0#32
  | i + 1 => if mask.getLsbD i = true ∧ i < N then part mask N i ^^^ BitVec.twoPow 32 i else part mask N i
theorem part_bit (mask : BitVec 32) (N : Nat) : ∀ i, i ≤ 32 → ∀ j, j < 32 → (part mask N i).getLsbD j = (decide (j < i) && mask.getLsbD j && decide (j < N))
  | 0, _, j, hj => by simp [part]
  | i + 1, hi, j, hj => by
    have ih := part_bit mask N i (by omega) j hj
    rw [part]
    by_cases hc : mask.getLsbD i = true ∧ i < N
    · rw [if_pos hc, BitVec.getLsbD_xor, ih, BitVec.getLsbD_twoPow]
      by_cases e : i = j
      · subst e
        simp [hc.1, hc.2, hj]
      · have h3 : (j < i + 1) ↔ (j < i) := by omega
        simp [e, h3]
    · rw [if_neg hc, ih]
      by_cases e : i = j
      · subst e
        by_cases h1 : mask.getLsbD i = true
        · have h2 : ¬ i < N := fun h => hc ⟨h1, h⟩
          simp [h2]
        · simp [h1]
      · have h3 : (j < i + 1) ↔ (j < i) := by omega
        simp [h3]
theorem ov_flips (x : BitVec 32) (l : List UInt8) (at_ : Nat) (mask : BitVec 32) : ∀ i, i ≤ 32 → ov x (flips l at_ mask i) = ov x l ^^^ Tn (8 * l.length - at_) (part mask (8 * l.length - at_) i)
  | 0, _ => by rw [flips, part, Tn_zero, BitVec.xor_zero]
  | i + 1, hi => by
    have ih := ov_flips x l at_ mask i (by omega)
    rw [flips, part]
    by_cases hc : mask.getLsbD i = true ∧ at_ + i < 8 * l.length
    · rw [if_pos hc, if_pos ⟨hc.1, by omega⟩, ov_flip1 _ _ _ (by rw [flips_length]; exact hc.2), flips_length, ih, Tn_xor, BitVec.xor_assoc]
      congr 2
      have h2 := Tn_pow2 i (by omega)
      rw [← h2, ← Tn_add]
      congr 1
      omega
    · rw [if_neg hc, if_neg (fun h => hc ⟨h.1, by omega⟩), ih]
theorem flips_id (l : List UInt8) (at_ : Nat) (mask : BitVec 32) (h : part mask (8 * l.length - at_) 32 = 0#32) : ∀ i, i ≤ 32 → flips l at_ mask i = l
  | 0, _ => rfl
  | i + 1, hi => by
    rw [flips, if_neg, flips_id l at_ mask h i (by omega)]
    intro hc
    have := part_bit mask (8 * l.length - at_) 32 (by omega) i (by omega)
    rw [h, hc.1] at this
    simp at this
    omega
/-- a burst is told by the register -/
theorem burst_ov (x : BitVec 32) (l : List UInt8) (at_ : Nat) (mask : BitVec 32) (h : ov x (flips l at_ mask 32) = ov x l) : flips l at_ mask 32 = l := by
  rw [ov_flips x l at_ mask 32 (by omega)] at h
  have h2 : Tn (8 * l.length - at_) (part mask (8 * l.length - at_) 32) = 0#32 := by
    have := congrArg (fun v => ov x l ^^^ v) h
    simp only [← BitVec.xor_assoc, BitVec.xor_self, BitVec.zero_xor] at this
    exact this
  exact flips_id l at_ mask (Tn_inj0 _ _ h2) 32 (by omega)
theorem burst_crc (l : List UInt8) (at_ : Nat) (mask : BitVec 32) (h : crc 0#32 (flips l at_ mask 32) = crc 0#32 l) : flips l at_ mask 32 = l := by
  refine burst_ov (~~~0#32) l at_ mask ?_
  unfold crc at h
  have := congrArg (fun v : BitVec 32 => ~~~v) h
  simpa using this
/-! ### a string with its sum behind it -/
theorem T8_shift (y : BitVec 32) (h : ∀ i, i < 8 → y.getLsbD i = false) : Tn 8 y = y >>> 8 := by
  rw [show (8 : Nat) = 4 + 4 from rfl, Tn_add, T4_shift y (fun i hi => h i (by omega)), T4_shift _ (fun i hi => by rw [BitVec.getLsbD_ushiftRight]; exact h _ (by omega)), ← BitVec.shiftRight_add]
theorem low_byte (s : BitVec 32) : BitVec.ofNat 32 (b8 s 0).toNat = s &&& 255#32 := by
  apply BitVec.eq_of_toNat_eq
  rw [b8_nat, Nat.pow_zero, Nat.div_one, BitVec.toNat_and, BitVec.toNat_ofNat, BitVec.toNat_ofNat, show 255 % 2 ^ 32 = 255 from rfl, nat_mask8]
  omega
theorem step8 (u s : BitVec 32) : Tn 8 (u ^^^ s) = by1 u (b8 s 0) ^^^ (s >>> 8) := by
  have hx : s = (s &&& 255#32) ^^^ (s &&& ~~~255#32) := by
    apply BitVec.eq_of_getLsbD_eq
    intro i hi
    rw [BitVec.getLsbD_xor, BitVec.getLsbD_and, BitVec.getLsbD_and, BitVec.getLsbD_not]
    cases s.getLsbD i <;> cases (255#32).getLsbD i <;> simp [hi]
  have hbits : ∀ i, (255#32).getLsbD i = decide (i < 8) := by
    intro i
    by_cases hi : i < 32
    · have : ∀ i, i < 32 → (255#32).getLsbD i = decide (i < 8) := by decide
      exact this i hi
    · rw [BitVec.getLsbD_of_ge _ _ (by omega)]; simp; omega
  have hz : ∀ i, i < 8 → (s &&& ~~~255#32).getLsbD i = false := by
    intro i hi
    rw [BitVec.getLsbD_and, BitVec.getLsbD_not, hbits]
    simp [hi]
  have hs : (s &&& ~~~255#32) >>> 8 = s >>> 8 := by
    apply BitVec.eq_of_getLsbD_eq
    intro i hi
    rw [BitVec.getLsbD_ushiftRight, BitVec.getLsbD_ushiftRight, BitVec.getLsbD_and, BitVec.getLsbD_not, hbits]
    by_cases h : 8 + i < 32
    · simp [h]
    · simp [h, BitVec.getLsbD_of_ge s (8 + i) (by omega)]
  conv => lhs; rw [hx, ← BitVec.xor_assoc, Tn_xor, T8_shift _ hz, hs]
  rw [by1, low_byte]
theorem b8_shift (s : BitVec 32) (i : Nat) : b8 (s >>> 8) i = b8 s (i + 1) := by
  apply u8_ext'
  rw [b8_nat, b8_nat, BitVec.toNat_ushiftRight, Nat.shiftRight_eq_div_pow, Nat.div_div_eq_div_mul, show 2 ^ 8 * 256 ^ i = 256 ^ (i + 1) by rw [Nat.mul_comm]; exact (Nat.pow_succ ..).symm]
where u8_ext' {a b : UInt8} (h : a.toNat = b.toNat) : a = b := UInt8.toNat_inj.1 h
theorem ov_le4 (u s : BitVec 32) : ov u (le4 s) = Tn 32 (u ^^^ s) := by
  have h1 := step8 u s
  have h2 := step8 (by1 u (b8 s 0)) (s >>> 8)
  have h3 := step8 (by1 (by1 u (b8 s 0)) (b8 s 1)) (s >>> 16)
  have h4 := step8 (by1 (by1 (by1 u (b8 s 0)) (b8 s 1)) (b8 s 2)) (s >>> 24)
  rw [b8_shift, ← BitVec.shiftRight_add] at h2
  rw [show s >>> 16 = (s >>> 8) >>> 8 by rw [← BitVec.shiftRight_add], b8_shift, b8_shift, ← BitVec.shiftRight_add, ← BitVec.shiftRight_add] at h3
  rw [show s >>> 24 = ((s >>> 8) >>> 8) >>> 8 by rw [← BitVec.shiftRight_add, ← BitVec.shiftRight_add], b8_shift, b8_shift, b8_shift, ← BitVec.shiftRight_add, ← BitVec.shiftRight_add, ← BitVec.shiftRight_add] at h4
  have h5 : s >>> (8 + 8 + 8 + 8) = 0#32 := by
    apply BitVec.eq_of_getLsbD_eq
    intro i hi
    rw [BitVec.getLsbD_ushiftRight, BitVec.getLsbD_of_ge _ _ (by omega)]; simp
  have e2 : Tn 8 (by1 u (b8 s 0) ^^^ s >>> 8) = by1 (by1 u (b8 s 0)) (b8 s 1) ^^^ s >>> 16 := h2
  have e3 : Tn 8 (by1 (by1 u (b8 s 0)) (b8 s 1) ^^^ s >>> 16) = by1 (by1 (by1 u (b8 s 0)) (b8 s 1)) (b8 s 2) ^^^ s >>> 24 := h3
  have e4 : Tn 8 (by1 (by1 (by1 u (b8 s 0)) (b8 s 1)) (b8 s 2) ^^^ s >>> 24) = by1 (by1 (by1 (by1 u (b8 s 0)) (b8 s 1)) (b8 s 2)) (b8 s 3) ^^^ s >>> 32 := h4
  have e5 : s >>> 32 = 0#32 := h5
  have h0 : Tn 32 (u ^^^ s) = Tn 8 (Tn 8 (Tn 8 (Tn 8 (u ^^^ s)))) := by rw [← Tn_add, ← Tn_add, ← Tn_add]
  rw [h0, h1, e2, e3, e4, e5, BitVec.xor_zero]
  rfl
theorem residue (b : List UInt8) : ov (~~~0#32) (b ++ le4 (crc 0#32 b)) = Tn 32 (BitVec.allOnes 32) := by
  rw [ov_append, ov_le4, crc]
  congr 1
  generalize ov (~~~0#32) b = u
  rw [← BitVec.xor_allOnes, ← BitVec.xor_assoc, BitVec.xor_self, BitVec.zero_xor]
/-- a sealed string in which a burst was turned over is none -/
theorem burst_seal (b : List UInt8) (at_ : Nat) (mask : BitVec 32) (hne : flips (b ++ le4 (crc 0#32 b)) at_ mask 32 ≠ b ++ le4 (crc 0#32 b)) :
    (flips (b ++ le4 (crc 0#32 b)) at_ mask 32).drop b.length ≠ le4 (crc 0#32 ((flips (b ++ le4 (crc 0#32 b)) at_ mask 32).take b.length)) := by
  intro he
  apply hne
  apply burst_ov (~~~0#32)
  rw [residue]
  generalize hc : flips (b ++ le4 (crc 0#32 b)) at_ mask 32 = c at *
  rw [← List.take_append_drop b.length c, he, residue]
end Go.Proofs.Ytggoaelbglhehaa
/- Bursts in a block that bears its sum in its middle: told, where they lie in one stretch. Plain. -/
set_option linter.unusedVariables false
set_option linter.unusedSimpArgs false
namespace Go.Proofs.Ytggoaelbglhehaa
open SumMath
/-- bit k of a string -/
def bitL (l : List UInt8) (k : Nat) : Bool := (l.getD (k / 8) 0).toNat.testBit (k % 8)
theorem u8_bits {a b : UInt8} (h : ∀ i, i < 8 → a.toNat.testBit i = b.toNat.testBit i) : a = b := by
  apply UInt8.toNat_inj.1
  apply Nat.eq_of_testBit_eq
  intro i
  by_cases hi : i < 8
  · exact h i hi
  · have ha := a.toNat_lt
    have hb := b.toNat_lt
    have hp : 2 ^ 8 ≤ 2 ^ i := Nat.pow_le_pow_right (by decide) (by omega)
    rw [Nat.testBit_lt_two_pow (by omega), Nat.testBit_lt_two_pow (by omega)]
theorem bitL_ext {l m : List UInt8} (hl : l.length = m.length) (h : ∀ k, k < 8 * l.length → bitL l k = bitL m k) : l = m := by
  apply List.ext_getElem hl
  intro j h1 h2
  apply u8_bits
  intro i hi
  have h3 := h (8 * j + i) (by omega)
  unfold bitL at h3
  rw [show (8 * j + i) / 8 = j by omega, show (8 * j + i) % 8 = i by omega] at h3
  simpa [List.getD_eq_getElem?_getD, List.getElem?_eq_getElem h1, List.getElem?_eq_getElem h2] using h3
theorem bitL_flip1 (l : List UInt8) (k j : Nat) (hk : k < 8 * l.length) : bitL (flip1 l k) j = (bitL l j ^^ decide (j = k)) := by
  have hkl : k / 8 < l.length := by omega
  unfold bitL flip1
  by_cases hj : j / 8 = k / 8
  · rw [hj, List.getD_eq_getElem?_getD, List.getElem?_set, if_pos rfl, if_pos hkl]
    show (l.getD (k / 8) 0 ^^^ UInt8.ofNat (2 ^ (k % 8))).toNat.testBit (j % 8) = _
    have h2 : 2 ^ (k % 8) < 256 := by
      have : k % 8 < 8 := Nat.mod_lt _ (by decide)
      calc 2 ^ (k % 8) ≤ 2 ^ 7 := Nat.pow_le_pow_right (by decide) (by omega)
        _ < 256 := by decide
    rw [UInt8.toNat_xor, Nat.testBit_xor, UInt8.toNat_ofNat', Nat.mod_eq_of_lt h2, Nat.testBit_two_pow]
    congr 1
    by_cases e : j = k
    · subst e; simp
    · have : ¬ k % 8 = j % 8 := by omega
      simp [this, e]
  · have e : ¬ j = k := fun e => hj (by rw [e])
    rw [List.getD_eq_getElem?_getD, List.getElem?_set, if_neg (fun h => hj h.symm), ← List.getD_eq_getElem?_getD]
    simp [e]
theorem bitL_flips (l : List UInt8) (at_ : Nat) (mask : BitVec 32) (j : Nat) (hj : j < 8 * l.length) : ∀ n, bitL (flips l at_ mask n) j = (bitL l j ^^ (decide (at_ ≤ j ∧ j < at_ + n) && mask.getLsbD (j - at_)))
  | 0 => by
    have : ¬ (at_ ≤ j ∧ j < at_ + 0) := by omega
    rw [decide_eq_false this]; simp [flips]
  | n + 1 => by
    have ih := bitL_flips l at_ mask j hj n
    rw [flips]
    by_cases hc : mask.getLsbD n = true ∧ at_ + n < 8 * l.length
    · rw [if_pos hc, bitL_flip1 _ _ _ (by rw [flips_length]; exact hc.2), ih]
      by_cases e : j = at_ + n
      · subst e
        have h1 : ¬ (at_ ≤ at_ + n ∧ at_ + n < at_ + n) := by omega
        have h2 : at_ ≤ at_ + n ∧ at_ + n < at_ + (n + 1) := by omega
        simp [h1, h2, hc.1]
      · have h1 : (at_ ≤ j ∧ j < at_ + (n + 1)) ↔ (at_ ≤ j ∧ j < at_ + n) := by omega
        simp [e, h1]
    · rw [if_neg hc, ih]
      by_cases e : j = at_ + n
      · subst e
        have h1 : ¬ (at_ ≤ at_ + n ∧ at_ + n < at_ + n) := by omega
        have h3 : mask.getLsbD n = false := by
          cases h : mask.getLsbD n
          · rfl
          · exact absurd ⟨h, hj⟩ hc
        simp [h1, h3]
      · have h1 : (at_ ≤ j ∧ j < at_ + (n + 1)) ↔ (at_ ≤ j ∧ j < at_ + n) := by omega
        simp [h1]
theorem bitL_append (l m : List UInt8) (k : Nat) : bitL (l ++ m) k = if k < 8 * l.length then bitL l k else bitL m (k - 8 * l.length) := by
  unfold bitL
  by_cases h : k < 8 * l.length
  · rw [if_pos h, List.getD_eq_getElem?_getD, List.getElem?_append_left (by omega), ← List.getD_eq_getElem?_getD]
  · rw [if_neg h, List.getD_eq_getElem?_getD, List.getElem?_append_right (by omega), ← List.getD_eq_getElem?_getD]
    rw [show (k - 8 * l.length) / 8 = k / 8 - l.length by omega, show (k - 8 * l.length) % 8 = k % 8 by omega]
theorem bitL_take (l : List UInt8) (p k : Nat) (h : k < 8 * p) : bitL (l.take p) k = bitL l k := by
  unfold bitL
  rw [List.getD_eq_getElem?_getD, List.getElem?_take, if_pos (by omega), ← List.getD_eq_getElem?_getD]
theorem bitL_drop (l : List UInt8) (p k : Nat) : bitL (l.drop p) k = bitL l (8 * p + k) := by
  unfold bitL
  rw [List.getD_eq_getElem?_getD, List.getElem?_drop, ← List.getD_eq_getElem?_getD, show (8 * p + k) / 8 = p + k / 8 by omega, show (8 * p + k) % 8 = k % 8 by omega]
/-- all but the four bytes of the sum -/
def bodyL (p : Nat) (y : List UInt8) : List UInt8 := y.take p ++ y.drop (p + 4)
/-- the block bears its sum -/
def Good (p : Nat) (y : List UInt8) : Prop := seg y p 4 = leB 4 ((crc 0#32 (bodyL p y)).toNat : Nat)
theorem leB4_inj {a b : BitVec 32} (h : leB 4 (a.toNat : Nat) = leB 4 (b.toNat : Nat)) : a = b := by
  have h1 := leN_leB 4 (a.toNat : Nat)
  have h2 := leN_leB 4 (b.toNat : Nat)
  rw [h] at h1
  have ha := a.isLt
  have hb := b.isLt
  have p4 : ((256 ^ 4 : Nat) : Int) = 4294967296 := by decide
  rw [p4] at h1 h2
  apply BitVec.eq_of_toNat_eq
  omega
theorem bodyL_len {p : Nat} {y : List UInt8} (h : p + 4 ≤ y.length) : (bodyL p y).length = y.length - 4 := by
  unfold bodyL
  rw [List.length_append, List.length_take, List.length_drop]; omega
theorem bodyL_bit {p : Nat} {y : List UInt8} (h : p + 4 ≤ y.length) (k : Nat) : bitL (bodyL p y) k = if k < 8 * p then bitL y k else bitL y (k + 32) := by
  unfold bodyL
  rw [bitL_append, List.length_take, Nat.min_eq_left (by omega)]
  by_cases hk : k < 8 * p
  · rw [if_pos hk, if_pos hk, bitL_take _ _ _ hk]
  · rw [if_neg hk, if_neg hk, bitL_drop]; congr 1; omega
theorem seg_bit (y : List UInt8) (p k : Nat) (hk : k < 32) : bitL (seg y p 4) k = bitL y (8 * p + k) := by
  unfold seg
  rw [bitL_take _ _ _ (by omega), bitL_drop]
/-- a burst within one stretch: ahead of the sum, in it, or behind it -/
theorem burst_blk (p : Nat) (x : List UInt8) (at_ : Nat) (mask : BitVec 32) (hp : 4 ≤ p) (hl : p + 4 ≤ x.length) (hx : Good p x)
    (hs : (∀ i, i < 32 → mask.getLsbD i = true → at_ + i < 8 * x.length → at_ + i < 8 * p) ∨ (∀ i, i < 32 → mask.getLsbD i = true → at_ + i < 8 * x.length → 8 * p ≤ at_ + i ∧ at_ + i < 8 * p + 32) ∨ (∀ i, i < 32 → mask.getLsbD i = true → at_ + i < 8 * x.length → 8 * p + 32 ≤ at_ + i))
    (hy : Good p (flips x at_ mask 32)) : flips x at_ mask 32 = x := by
  obtain ⟨y, hye⟩ : ∃ y, y = flips x at_ mask 32 := ⟨_, rfl⟩
  have hyl : y.length = x.length := by rw [hye, flips_length]
  have hb : ∀ j, j < 8 * x.length → bitL y j = (bitL x j ^^ (decide (at_ ≤ j ∧ j < at_ + 32) && mask.getLsbD (j - at_))) := fun j hj => by rw [hye]; exact bitL_flips x at_ mask j hj 32
  rw [← hye] at hy ⊢
  have hN : ∀ j, j < 8 * x.length → (∀ i, i < 32 → j = at_ + i → mask.getLsbD i = false) → bitL y j = bitL x j := fun j hj h => by
    rw [hb j hj]
    by_cases hc : at_ ≤ j ∧ j < at_ + 32
    · have := h (j - at_) (by omega) (by omega)
      simp [this]
    · simp [hc]
  unfold Good at hx hy
  rcases hs with hs | hs | hs
  · -- ahead
    have hseg : seg y p 4 = seg x p 4 := by
      apply bitL_ext
      · rw [seg_len _ _ _ (by omega), seg_len _ _ _ (by omega)]
      · intro k hk
        rw [seg_len _ _ _ (by omega)] at hk
        rw [seg_bit _ _ _ (by omega), seg_bit _ _ _ (by omega)]
        refine hN _ (by omega) fun i hi e => ?_
        cases hm : mask.getLsbD i
        · rfl
        · have := hs i hi hm (by omega); omega
    have hcrc := leB4_inj (hy.symm.trans (hseg.trans hx))
    have hbody : bodyL p y = flips (bodyL p x) at_ mask 32 := by
      apply bitL_ext
      · rw [flips_length, bodyL_len (by omega), bodyL_len (by omega), hyl]
      · intro k hk
        rw [bodyL_len (by omega), hyl] at hk
        rw [bitL_flips _ _ _ _ (by rw [bodyL_len (by omega)]; exact hk), bodyL_bit (by omega), bodyL_bit (by omega)]
        by_cases hkp : k < 8 * p
        · rw [if_pos hkp, if_pos hkp, hb k (by omega)]
        · rw [if_neg hkp, if_neg hkp, hN (k + 32) (by omega) fun i hi e => ?_]
          · by_cases hc : at_ ≤ k ∧ k < at_ + 32
            · have : mask.getLsbD (k - at_) = false := by
                cases hm : mask.getLsbD (k - at_)
                · rfl
                · have := hs (k - at_) (by omega) hm (by omega); omega
              simp [this]
            · simp [hc]
          · cases hm : mask.getLsbD i
            · rfl
            · have := hs i hi hm (by omega); omega
    rw [hbody] at hcrc
    have he := burst_crc (bodyL p x) at_ mask hcrc
    apply bitL_ext hyl
    intro k hk
    rw [hyl] at hk
    by_cases hkp : k < 8 * p
    · have h1 := congrArg (fun l => bitL l k) (hbody.trans he)
      simp only [bodyL_bit (show p + 4 ≤ y.length by omega), bodyL_bit hl, if_pos hkp] at h1
      exact h1
    · refine hN k (by omega) fun i hi e => ?_
      cases hm : mask.getLsbD i
      · rfl
      · have := hs i hi hm (by omega); omega
  · -- in it
    have hbody : bodyL p y = bodyL p x := by
      apply bitL_ext
      · rw [bodyL_len (by omega), bodyL_len (by omega), hyl]
      · intro k hk
        rw [bodyL_len (by omega), hyl] at hk
        rw [bodyL_bit (by omega), bodyL_bit (by omega)]
        split
        · refine hN k (by omega) fun i hi e => ?_
          cases hm : mask.getLsbD i
          · rfl
          · have := hs i hi hm (by omega); omega
        · refine hN (k + 32) (by omega) fun i hi e => ?_
          cases hm : mask.getLsbD i
          · rfl
          · have := hs i hi hm (by omega); omega
    have hseg : seg y p 4 = seg x p 4 := by rw [hy, hx, hbody]
    apply bitL_ext hyl
    intro k hk
    rw [hyl] at hk
    by_cases hks : 8 * p ≤ k ∧ k < 8 * p + 32
    · have h1 := congrArg (fun l => bitL l (k - 8 * p)) hseg
      simp only [seg_bit _ _ _ (show k - 8 * p < 32 by omega)] at h1
      rwa [show 8 * p + (k - 8 * p) = k by omega] at h1
    · refine hN k (by omega) fun i hi e => ?_
      cases hm : mask.getLsbD i
      · rfl
      · have := hs i hi hm (by omega); omega
  · -- behind
    by_cases hany : ∃ i, i < 32 ∧ mask.getLsbD i = true ∧ at_ + i < 8 * x.length
    · obtain ⟨i0, hi0, hm0, hl0⟩ := hany
      have hat : 32 ≤ at_ := by have := hs i0 hi0 hm0 hl0; omega
      have hseg : seg y p 4 = seg x p 4 := by
        apply bitL_ext
        · rw [seg_len _ _ _ (by omega), seg_len _ _ _ (by omega)]
        · intro k hk
          rw [seg_len _ _ _ (by omega)] at hk
          rw [seg_bit _ _ _ (by omega), seg_bit _ _ _ (by omega)]
          refine hN _ (by omega) fun i hi e => ?_
          cases hm : mask.getLsbD i
          · rfl
          · have := hs i hi hm (by omega); omega
      have hcrc := leB4_inj (hy.symm.trans (hseg.trans hx))
      have hbody : bodyL p y = flips (bodyL p x) (at_ - 32) mask 32 := by
        apply bitL_ext
        · rw [flips_length, bodyL_len (by omega), bodyL_len (by omega), hyl]
        · intro k hk
          rw [bodyL_len (by omega), hyl] at hk
          rw [bitL_flips _ _ _ _ (by rw [bodyL_len (by omega)]; exact hk), bodyL_bit (by omega), bodyL_bit (by omega)]
          by_cases hkp : k < 8 * p
          · rw [if_pos hkp, if_pos hkp, hN k (by omega) fun i hi e => ?_]
            · by_cases hc : at_ - 32 ≤ k ∧ k < at_ - 32 + 32
              · have : mask.getLsbD (k - (at_ - 32)) = false := by
                  cases hm : mask.getLsbD (k - (at_ - 32))
                  · rfl
                  · have := hs (k - (at_ - 32)) (by omega) hm (by omega); omega
                simp [this]
              · rw [decide_eq_false hc]; simp
            · cases hm : mask.getLsbD i
              · rfl
              · have := hs i hi hm (by omega); omega
          · rw [if_neg hkp, if_neg hkp, hb (k + 32) (by omega)]
            have e1 : (at_ ≤ k + 32 ∧ k + 32 < at_ + 32) ↔ (at_ - 32 ≤ k ∧ k < at_ - 32 + 32) := by omega
            by_cases hc : at_ - 32 ≤ k ∧ k < at_ - 32 + 32
            · have e2 : k + 32 - at_ = k - (at_ - 32) := by omega
              simp only [e1, e2]
            · simp only [e1, hc, decide_false, Bool.false_and]
      rw [hbody] at hcrc
      have he := burst_crc (bodyL p x) (at_ - 32) mask hcrc
      apply bitL_ext hyl
      intro k hk
      rw [hyl] at hk
      by_cases hkp : 8 * p + 32 ≤ k
      · have h1 := congrArg (fun l => bitL l (k - 32)) (hbody.trans he)
        simp only [bodyL_bit (show p + 4 ≤ y.length by omega), bodyL_bit hl, if_neg (show ¬ k - 32 < 8 * p by omega)] at h1
        rwa [show k - 32 + 32 = k by omega] at h1
      · refine hN k (by omega) fun i hi e => ?_
        cases hm : mask.getLsbD i
        · rfl
        · have := hs i hi hm (by omega); omega
    · apply bitL_ext hyl
      intro k hk
      rw [hyl] at hk
      refine hN k (by omega) fun i hi e => ?_
      cases hm : mask.getLsbD i
      · rfl
      · exact absurd ⟨i, hi, hm, by omega⟩ hany
end Go.Proofs.Ytggoaelbglhehaa
/- Bits turned over in one stretch of a block with its sum at byte p: what the laws' helper turned does. Plain. -/
set_option linter.unusedVariables false
set_option linter.unusedSimpArgs false
namespace Go.Proofs.Ytggoaelbglhehaa
open SumMath
/-- the stretch of a bit: ahead of the sum, in it, behind it -/
def stB (p k : Nat) : Nat := if 8 * p + 32 ≤ k then 3 else if 8 * p ≤ k then 2 else 1
def tuS (p N at_ : Nat) (mask : BitVec 32) : Nat → Nat
  | 0 => 0
  | i + 1 => if mask.getLsbD i = true ∧ at_ + i < 8 * N ∧ tuS p N at_ mask i = 0 then stB p (at_ + i) else tuS p N at_ mask i
/-- bit i is turned over -/
def tuH (p N at_ : Nat) (mask : BitVec 32) (i : Nat) : Prop := mask.getLsbD i = true ∧ at_ + i < 8 * N ∧ stB p (at_ + i) = tuS p N at_ mask (i + 1)
instance (p N at_ : Nat) (mask : BitVec 32) (i : Nat) : Decidable (tuH p N at_ mask i) := by unfold tuH; infer_instance
def tuB (p at_ : Nat) (mask : BitVec 32) (x : List UInt8) : Nat → List UInt8
  | 0 => x
  | i + 1 => if tuH p x.length at_ mask i then flip1 (tuB p at_ mask x i) (at_ + i) else tuB p at_ mask x i
def tuN (p N at_ : Nat) (mask : BitVec 32) : Nat → Nat
  | 0 => 0
  | i + 1 => if tuH p N at_ mask i then tuN p N at_ mask i + 1 else tuN p N at_ mask i
theorem tuB_len (p at_ : Nat) (mask : BitVec 32) (x : List UInt8) : ∀ i, (tuB p at_ mask x i).length = x.length
  | 0 => rfl
  | i + 1 => by
    rw [tuB]; split
    · rw [flip1_length, tuB_len p at_ mask x i]
    · exact tuB_len p at_ mask x i
theorem tuN_le (p N at_ : Nat) (mask : BitVec 32) : ∀ i, tuN p N at_ mask i ≤ i
  | 0 => Nat.le_refl _
  | i + 1 => by have := tuN_le p N at_ mask i; rw [tuN]; split <;> omega
theorem stB_pos (p k : Nat) : 1 ≤ stB p k ∧ stB p k ≤ 3 := by unfold stB; split <;> (try split) <;> omega
theorem tuS_stay (p N at_ : Nat) (mask : BitVec 32) (i : Nat) (h : tuS p N at_ mask i ≠ 0) : ∀ d, tuS p N at_ mask (i + d) = tuS p N at_ mask i
  | 0 => rfl
  | d + 1 => by
    have ih := tuS_stay p N at_ mask i h d
    rw [← Nat.add_assoc, tuS, if_neg (fun hc => h (by rw [← ih]; exact hc.2.2)), ih]
theorem tuS_hit (p N at_ : Nat) (mask : BitVec 32) (i : Nat) (h1 : mask.getLsbD i = true) (h2 : at_ + i < 8 * N) : tuS p N at_ mask (i + 1) ≠ 0 := by
  have := (stB_pos p (at_ + i)).1
  rw [tuS]
  split
  · omega
  · rename_i hc
    exact fun h0 => hc ⟨h1, h2, h0⟩
/-- the bits that are turned over, as a mask -/
theorem mask_of (f : Nat → Bool) : ∀ n, n ≤ 32 → ∃ m : BitVec 32, ∀ i, m.getLsbD i = (decide (i < n) && f i)
  | 0, _ => ⟨0#32, fun i => by simp⟩
  | n + 1, hn => by
    obtain ⟨m, hm⟩ := mask_of f n (by omega)
    by_cases hf : f n = true
    · refine ⟨m ||| BitVec.twoPow 32 n, fun i => ?_⟩
      rw [BitVec.getLsbD_or, hm, BitVec.getLsbD_twoPow]
      by_cases e : i = n
      · subst e; simp [hf]; omega
      · have h1 : (i < n + 1) ↔ (i < n) := by omega
        have h2 : ¬ n = i := fun h => e h.symm
        simp [h1, h2]
    · refine ⟨m, fun i => ?_⟩
      rw [hm]
      by_cases e : i = n
      · subst e; simp [hf]
      · have h1 : (i < n + 1) ↔ (i < n) := by omega
        simp [h1]
theorem tu_mask (p at_ : Nat) (mask : BitVec 32) (x : List UInt8) : ∃ m : BitVec 32, tuB p at_ mask x 32 = flips x at_ m 32 ∧ (∀ i, i < 32 → m.getLsbD i = true → at_ + i < 8 * x.length ∧ stB p (at_ + i) = tuS p x.length at_ mask 32) ∧ (0 < tuN p x.length at_ mask 32 → ∃ i, i < 32 ∧ m.getLsbD i = true ∧ at_ + i < 8 * x.length) := by
  obtain ⟨m, hm⟩ := mask_of (fun i => decide (tuH p x.length at_ mask i)) 32 (Nat.le_refl _)
  have hb : ∀ i, i < 32 → m.getLsbD i = decide (tuH p x.length at_ mask i) := fun i hi => by rw [hm]; simp [hi]
  refine ⟨m, ?_, fun i hi h => ?_, ?_⟩
  · have : ∀ n, n ≤ 32 → tuB p at_ mask x n = flips x at_ m n := by
      intro n
      induction n with
      | zero => intro _; rfl
      | succ n ih =>
        intro hn
        rw [tuB, flips, ih (by omega), hb n (by omega)]
        by_cases hc : tuH p x.length at_ mask n
        · rw [if_pos hc, if_pos ⟨by simp [hc], hc.2.1⟩]
        · rw [if_neg hc, if_neg (fun h => hc (by simpa using h.1))]
    exact this 32 (Nat.le_refl _)
  · rw [hb i hi] at h
    have h1 : tuH p x.length at_ mask i := by simpa using h
    refine ⟨h1.2.1, h1.2.2.trans ?_⟩
    have h2 := tuS_stay p x.length at_ mask (i + 1) (tuS_hit p x.length at_ mask i h1.1 h1.2.1) (32 - (i + 1))
    rw [← h2]; congr 1; omega
  · have : ∀ n, n ≤ 32 → 0 < tuN p x.length at_ mask n → ∃ i, i < 32 ∧ tuH p x.length at_ mask i := by
      intro n
      induction n with
      | zero => intro _ h; exact absurd h (by simp [tuN])
      | succ n ih =>
        intro hn h
        rw [tuN] at h
        by_cases hc : tuH p x.length at_ mask n
        · exact ⟨n, by omega, hc⟩
        · rw [if_neg hc] at h; exact ih (by omega) h
    intro h
    obtain ⟨i, hi, hc⟩ := this 32 (Nat.le_refl _) h
    exact ⟨i, hi, by rw [hb i hi]; simp [hc], hc.2.1⟩
/-- bits were turned over in one stretch: the sum tells it -/
theorem tu_told (p at_ : Nat) (mask : BitVec 32) (x : List UInt8) (hp : 4 ≤ p) (hl : p + 4 ≤ x.length) (hx : Good p x) (hn : 0 < tuN p x.length at_ mask 32) : ¬ Good p (tuB p at_ mask x 32) := by
  obtain ⟨m, hm, hs, hh⟩ := tu_mask p at_ mask x
  intro hg
  rw [hm] at hg
  have he := burst_blk p x at_ m hp hl hx (by
    have hu : ∀ k, stB p k = 3 ∧ 8 * p + 32 ≤ k ∨ stB p k = 2 ∧ 8 * p ≤ k ∧ k < 8 * p + 32 ∨ stB p k = 1 ∧ k < 8 * p := fun k => by
      unfold stB; split <;> (try split) <;> omega
    by_cases h1 : tuS p x.length at_ mask 32 = 1
    · exact .inl fun i hi h _ => by have h2 := (hs i hi h).2; have := hu (at_ + i); omega
    · by_cases h2 : tuS p x.length at_ mask 32 = 2
      · exact .inr (.inl fun i hi h _ => by have h3 := (hs i hi h).2; have := hu (at_ + i); omega)
      · exact .inr (.inr fun i hi h _ => by have h3 := (hs i hi h).2; have := hu (at_ + i); omega)) hg
  obtain ⟨i, hi, hmi, hil⟩ := hh hn
  have h9 := bitL_flips x at_ m (at_ + i) hil 32
  rw [he] at h9
  have h8 : at_ ≤ at_ + i ∧ at_ + i < at_ + 32 := by omega
  rw [decide_eq_true h8, show at_ + i - at_ = i by omega, hmi] at h9
  simp at h9
end Go.Proofs.Ytggoaelbglhehaa
/- The laws' helper turned. -/
set_option linter.unusedVariables false
set_option linter.unusedSimpArgs false
set_option maxRecDepth 100000
namespace Go.Proofs.Ytggoaelbglhehaa
open Go.RowKit SumMath
theorem bit_test0 (mask : BitVec 32) (j : Nat) : (bits .and .u32 ((mask.toNat : Int) / 2 ^ j) 1 == 0) = !(mask.getLsbD j) := by
  have h1 : (mask.toNat : Int) / 2 ^ j = ((mask.toNat / 2 ^ j : Nat) : Int) := by
    rw [show (2 : Int) ^ j = ((2 ^ j : Nat) : Int) from (Int.natCast_pow 2 j).symm, Int.natCast_ediv]
  have h2 : mask.toNat / 2 ^ j ≤ mask.toNat := Nat.div_le_self _ _
  rw [h1, show (1 : Int) = ((1 : Nat) : Int) from rfl, u32_and_nat _ _ (Nat.lt_of_le_of_lt h2 mask.isLt) (by decide), nat_mask1, BitVec.getLsbD, Nat.testBit_eq_decide_div_mod_eq]
  rcases Nat.mod_two_eq_zero_or_one (mask.toNat / 2 ^ j) with h | h <;> rw [h] <;> simp
theorem l11_turned_out (A : Option Addr) (n c : Nat) (l : List UInt8) (at_ : Int) (mask : BitVec 32) (w : World) (hr : Rd w A n c l) (hn : n ≤ 140737488351232) (ho : at_ < 0 ∨ 8 * (n : Int) ≤ at_) :
    Calls Try.prog 17 #[.slice A n c, .int .i64 at_, .int .u32 mask.toNat] w fun e w' => ∃ v, e = .returned (.tuple #[v, .int .i64 0]) ∧ Own w' w.heap.size v n l ∧ Below w.heap.size w w' := by
  have HR := Lib.hid hr
  clear hr
  go_enter Try.func17, Try.ntmps17
  go_wp2_with fail
  refine (l11_own _ A n c l HR.out (by omega)).mono ?_
  rintro e w1 ⟨v, rfl, hO, hb1⟩
  obtain ⟨A1, c1, rfl, -⟩ := hO.rd (by omega)
  have HO := Lib.hid hO
  have HB := Lib.hid hb1
  clear hO hb1
  by_cases h0 : at_ < 0
  · clear ho
    go_wp2
    go_ret2
    exact ⟨_, rfl, HO.out, HB.out⟩
  · have h1 : 8 * (n : Int) ≤ at_ := by omega
    clear ho
    go_wp2
    go_ret2
    exact ⟨_, rfl, HO.out, HB.out⟩
set_option maxHeartbeats 4000000 in
theorem l11_turned (A : Option Addr) (n c : Nat) (l : List UInt8) (at_ : Nat) (mask : BitVec 32) (w : World) (hr : Rd w A n c l) (hn : n ≤ 140737488351232) (ho : at_ < 8 * n) :
    Calls Try.prog 17 #[.slice A n c, .int .i64 at_, .int .u32 mask.toNat] w fun e w' => ∃ v, e = .returned (.tuple #[v, .int .i64 (tuN 500 n at_ mask 32 : Nat)]) ∧ Own w' w.heap.size v n (tuB 500 at_ mask l 32) ∧ Below w.heap.size w w' := by
  have HR := Lib.hid hr
  have HL := Lib.hid hr.len
  have hmk := mask.isLt
  have hoi : (at_ : Int) < 8 * (n : Int) ∧ (0 : Int) ≤ (at_ : Int) := by omega
  clear hr
  go_enter Try.func17, Try.ntmps17
  go_wp2_with fail
  refine (l11_own _ A n c l HR.out (by omega)).mono ?_
  rintro e w1 ⟨v, rfl, hO, hb1⟩
  obtain ⟨A1, c1, rfl, -⟩ := hO.rd (by omega)
  have HO := Lib.hid hO
  have HB := Lib.hid hb1
  clear hO hb1
  go_wp2_with fail
  go_loopw [9, 10, 11, 12, 13] (fun x9 x10 x _ _ wr => ∃ j : Nat, j ≤ 32 ∧ x = .int .i64 j ∧ x9 = .int .i64 (tuN 500 n at_ mask j : Nat) ∧ x10 = .int .i64 (tuS 500 n at_ mask j : Nat) ∧ Own wr w.heap.size (.slice A1 n c1) n (tuB 500 at_ mask l j) ∧ Below w.heap.size w wr) (fun _ _ x _ _ _ => 32 - (intOf x).toNat)
  case atStart => exact ⟨0, by omega, rfl, rfl, rfl, HO.out, HB.out⟩
  case round =>
    obtain ⟨j, hj, rfl, rfl, rfl, hOj, hB⟩ := hrel
    have HOj := Lib.hid hOj
    have HBj := Lib.hid hB
    have hnle := tuN_le 500 n at_ mask j
    clear hOj hB
    by_cases hj32 : j < 32
    · have hji : (0 : Int) ≤ (j : Int) ∧ (j : Int) < 32 := by omega
      have HBT := Lib.hid (bit_test0 mask j)
      have HTS := Lib.hid (show tuS 500 n at_ mask (j + 1) = if mask.getLsbD j = true ∧ at_ + j < 8 * n ∧ tuS 500 n at_ mask j = 0 then stB 500 (at_ + j) else tuS 500 n at_ mask j from rfl)
      have HTN := Lib.hid (show tuN 500 n at_ mask (j + 1) = if tuH 500 n at_ mask j then tuN 500 n at_ mask j + 1 else tuN 500 n at_ mask j from rfl)
      have HTB := Lib.hid (show tuB 500 at_ mask l (j + 1) = if tuH 500 n at_ mask j then flip1 (tuB 500 at_ mask l j) (at_ + j) else tuB 500 at_ mask l j by rw [tuB, HL.out])
      have HTH := Lib.hid (show tuH 500 n at_ mask j ↔ (mask.getLsbD j = true ∧ at_ + j < 8 * n ∧ stB 500 (at_ + j) = tuS 500 n at_ mask (j + 1)) from Iff.rfl)
      obtain ⟨Nj, hNj⟩ : ∃ N, N = tuN 500 n at_ mask j := ⟨_, rfl⟩
      obtain ⟨Sj, hSj⟩ : ∃ S, S = tuS 500 n at_ mask j := ⟨_, rfl⟩
      rw [← hNj] at HTN hnle ⊢
      rw [← hSj] at HTS ⊢
      clear hNj hSj
      by_cases hbit : mask.getLsbD j = true
      rotate_left
      · have hbt := HBT.out
        rw [show mask.getLsbD j = false by simpa using hbit] at hbt
        have HNX := Lib.hid (show tuN 500 n at_ mask (j + 1) = Nj ∧ tuS 500 n at_ mask (j + 1) = Sj ∧ tuB 500 at_ mask l (j + 1) = tuB 500 at_ mask l j from ⟨by rw [HTN.out, if_neg (fun h => hbit h.1)], by rw [HTS.out, if_neg (fun h => hbit h.1)], by rw [HTB.out, if_neg (fun h => hbit h.1)]⟩)
        clear hbit
        go_wp2
        exact ⟨⟨j + 1, by omega, by go_num, by rw [HNX.out.1], by rw [HNX.out.2.1], by rw [HNX.out.2.2]; exact HOj.out, HBj.out⟩, by simp [intOf]; omega⟩
      have hbt := HBT.out
      rw [hbit] at hbt
      by_cases hk : at_ + j < 8 * n
      rotate_left
      · have hki : 8 * (n : Int) ≤ (at_ : Int) + (j : Int) := by omega
        have HNX := Lib.hid (show tuN 500 n at_ mask (j + 1) = Nj ∧ tuS 500 n at_ mask (j + 1) = Sj ∧ tuB 500 at_ mask l (j + 1) = tuB 500 at_ mask l j from ⟨by rw [HTN.out, if_neg (fun h => hk h.2.1)], by rw [HTS.out, if_neg (fun h => hk h.2.1)], by rw [HTB.out, if_neg (fun h => hk h.2.1)]⟩)
        clear hbit hk
        go_wp2
        exact ⟨⟨j + 1, by omega, by go_num, by rw [HNX.out.1], by rw [HNX.out.2.1], by rw [HNX.out.2.2]; exact HOj.out, HBj.out⟩, by simp [intOf]; omega⟩
      have hki : (at_ : Int) + (j : Int) < 8 * (n : Int) := by omega
      obtain ⟨g, cc, he, hg1, hg2⟩ := HOj.out.form (by omega)
      injection he with he1 he2 he3
      subst he1 he3
      have hcell := HOj.out.cell ((at_ + j) / 8) (by omega)
      have hfree := HOj.out.free ((at_ + j) / 8)
      have h8 := ((tuB 500 at_ mask l j).getD ((at_ + j) / 8) 0).toNat_lt
      have HV := Lib.hid (flip_val ((tuB 500 at_ mask l j).getD ((at_ + j) / 8) 0) (at_ + j))
      have HW := Lib.hid (HOj.out.store ((at_ + j) / 8) ((tuB 500 at_ mask l j).getD ((at_ + j) / 8) 0 ^^^ UInt8.ofNat (2 ^ ((at_ + j) % 8))))
      obtain ⟨x, hx⟩ : ∃ x, x = (tuB 500 at_ mask l j).getD ((at_ + j) / 8) 0 := ⟨_, rfl⟩
      rw [← hx] at hcell h8 HV HW
      have HX := Lib.hid hx
      have HST := Lib.hid (show stB 500 (at_ + j) = if 4032 ≤ at_ + j then 3 else if 4000 ≤ at_ + j then 2 else 1 from rfl)
      have HG := Lib.hid hg1
      clear hx hg2
      by_cases hp : 4032 ≤ at_ + j
      · have hst : stB 500 (at_ + j) = 3 := by rw [HST.out, if_pos hp]
        have hpi : (4032 : Int) ≤ (at_ : Int) + (j : Int) := by omega
        by_cases hS0 : Sj = 0
        · subst hS0
          have HNX := Lib.hid (show tuN 500 n at_ mask (j + 1) = Nj + 1 ∧ tuS 500 n at_ mask (j + 1) = 3 ∧ tuB 500 at_ mask l (j + 1) = flip1 (tuB 500 at_ mask l j) (at_ + j) from by
            have h1 : tuS 500 n at_ mask (j + 1) = 3 := by rw [HTS.out, if_pos ⟨hbit, hk, rfl⟩]; exact hst
            have h2 : tuH 500 n at_ mask j := HTH.out.2 ⟨hbit, hk, by rw [h1]; exact hst⟩
            exact ⟨by rw [HTN.out, if_pos h2], h1, by rw [HTB.out, if_pos h2]⟩)
          clear hbit hk
          go_wp2_with fail
          go_region
          go_wp2
          refine ⟨⟨j + 1, by omega, by go_num, by rw [HNX.out.1]; go_num, by rw [HNX.out.2.1]; rfl, ?_, ?_⟩, by simp [intOf]; omega⟩
          · rw [HNX.out.2.2, flip1, ← HX.out]
            have := HW.out
            rw [← HV.out] at this
            exact this
          · exact (HBj.out.setCell (by exact HG.out) _).drew
        · have hS0i : ((Sj : Int) == 0) = false := by simp; omega
          by_cases hSs : Sj = 3
          · subst hSs
            have HNX := Lib.hid (show tuN 500 n at_ mask (j + 1) = Nj + 1 ∧ tuS 500 n at_ mask (j + 1) = 3 ∧ tuB 500 at_ mask l (j + 1) = flip1 (tuB 500 at_ mask l j) (at_ + j) from by
              have h1 : tuS 500 n at_ mask (j + 1) = 3 := by rw [HTS.out, if_neg (fun h => hS0 h.2.2)]
              have h2 : tuH 500 n at_ mask j := HTH.out.2 ⟨hbit, hk, by rw [h1]; exact hst⟩
              exact ⟨by rw [HTN.out, if_pos h2], h1, by rw [HTB.out, if_pos h2]⟩)
            clear hbit hk
            go_wp2_with fail
            go_region
            go_wp2
            refine ⟨⟨j + 1, by omega, by go_num, by rw [HNX.out.1]; go_num, by rw [HNX.out.2.1]; rfl, ?_, ?_⟩, by simp [intOf]; omega⟩
            · rw [HNX.out.2.2, flip1, ← HX.out]
              have := HW.out
              rw [← HV.out] at this
              exact this
            · exact (HBj.out.setCell (by exact HG.out) _).drew
          · have hne : ((3 : Int) == (Sj : Int)) = false := by simp; omega
            have HNX := Lib.hid (show tuN 500 n at_ mask (j + 1) = Nj ∧ tuS 500 n at_ mask (j + 1) = Sj ∧ tuB 500 at_ mask l (j + 1) = tuB 500 at_ mask l j from by
              have h1 : tuS 500 n at_ mask (j + 1) = Sj := by rw [HTS.out, if_neg (fun h => hS0 h.2.2)]
              have h2 : ¬ tuH 500 n at_ mask j := fun h => hSs (by rw [← h1, ← h.2.2]; exact hst)
              exact ⟨by rw [HTN.out, if_neg h2], h1, by rw [HTB.out, if_neg h2]⟩)
            clear hbit hk
            go_wp2
            exact ⟨⟨j + 1, by omega, by go_num, by rw [HNX.out.1], by rw [HNX.out.2.1], by rw [HNX.out.2.2]; exact HOj.out, HBj.out⟩, by simp [intOf]; omega⟩
      have hp3 := hp
      clear hp
      by_cases hp : 4000 ≤ at_ + j
      · have hst : stB 500 (at_ + j) = 2 := by rw [HST.out, if_neg hp3, if_pos hp]
        have hpi : (4000 : Int) ≤ (at_ : Int) + (j : Int) ∧ (at_ : Int) + (j : Int) < 4032 := by omega
        by_cases hS0 : Sj = 0
        · subst hS0
          have HNX := Lib.hid (show tuN 500 n at_ mask (j + 1) = Nj + 1 ∧ tuS 500 n at_ mask (j + 1) = 2 ∧ tuB 500 at_ mask l (j + 1) = flip1 (tuB 500 at_ mask l j) (at_ + j) from by
            have h1 : tuS 500 n at_ mask (j + 1) = 2 := by rw [HTS.out, if_pos ⟨hbit, hk, rfl⟩]; exact hst
            have h2 : tuH 500 n at_ mask j := HTH.out.2 ⟨hbit, hk, by rw [h1]; exact hst⟩
            exact ⟨by rw [HTN.out, if_pos h2], h1, by rw [HTB.out, if_pos h2]⟩)
          clear hbit hk
          go_wp2_with fail
          go_region
          go_wp2
          refine ⟨⟨j + 1, by omega, by go_num, by rw [HNX.out.1]; go_num, by rw [HNX.out.2.1]; rfl, ?_, ?_⟩, by simp [intOf]; omega⟩
          · rw [HNX.out.2.2, flip1, ← HX.out]
            have := HW.out
            rw [← HV.out] at this
            exact this
          · exact (HBj.out.setCell (by exact HG.out) _).drew
        · have hS0i : ((Sj : Int) == 0) = false := by simp; omega
          by_cases hSs : Sj = 2
          · subst hSs
            have HNX := Lib.hid (show tuN 500 n at_ mask (j + 1) = Nj + 1 ∧ tuS 500 n at_ mask (j + 1) = 2 ∧ tuB 500 at_ mask l (j + 1) = flip1 (tuB 500 at_ mask l j) (at_ + j) from by
              have h1 : tuS 500 n at_ mask (j + 1) = 2 := by rw [HTS.out, if_neg (fun h => hS0 h.2.2)]
              have h2 : tuH 500 n at_ mask j := HTH.out.2 ⟨hbit, hk, by rw [h1]; exact hst⟩
              exact ⟨by rw [HTN.out, if_pos h2], h1, by rw [HTB.out, if_pos h2]⟩)
            clear hbit hk
            go_wp2_with fail
            go_region
            go_wp2
            refine ⟨⟨j + 1, by omega, by go_num, by rw [HNX.out.1]; go_num, by rw [HNX.out.2.1]; rfl, ?_, ?_⟩, by simp [intOf]; omega⟩
            · rw [HNX.out.2.2, flip1, ← HX.out]
              have := HW.out
              rw [← HV.out] at this
              exact this
            · exact (HBj.out.setCell (by exact HG.out) _).drew
          · have hne : ((2 : Int) == (Sj : Int)) = false := by simp; omega
            have HNX := Lib.hid (show tuN 500 n at_ mask (j + 1) = Nj ∧ tuS 500 n at_ mask (j + 1) = Sj ∧ tuB 500 at_ mask l (j + 1) = tuB 500 at_ mask l j from by
              have h1 : tuS 500 n at_ mask (j + 1) = Sj := by rw [HTS.out, if_neg (fun h => hS0 h.2.2)]
              have h2 : ¬ tuH 500 n at_ mask j := fun h => hSs (by rw [← h1, ← h.2.2]; exact hst)
              exact ⟨by rw [HTN.out, if_neg h2], h1, by rw [HTB.out, if_neg h2]⟩)
            clear hbit hk
            go_wp2
            exact ⟨⟨j + 1, by omega, by go_num, by rw [HNX.out.1], by rw [HNX.out.2.1], by rw [HNX.out.2.2]; exact HOj.out, HBj.out⟩, by simp [intOf]; omega⟩
      have hp2 := hp
      clear hp
      have hst : stB 500 (at_ + j) = 1 := by rw [HST.out, if_neg hp3, if_neg hp2]
      have hpi : (at_ : Int) + (j : Int) < 4000 := by omega
      by_cases hS0 : Sj = 0
      · subst hS0
        have HNX := Lib.hid (show tuN 500 n at_ mask (j + 1) = Nj + 1 ∧ tuS 500 n at_ mask (j + 1) = 1 ∧ tuB 500 at_ mask l (j + 1) = flip1 (tuB 500 at_ mask l j) (at_ + j) from by
          have h1 : tuS 500 n at_ mask (j + 1) = 1 := by rw [HTS.out, if_pos ⟨hbit, hk, rfl⟩]; exact hst
          have h2 : tuH 500 n at_ mask j := HTH.out.2 ⟨hbit, hk, by rw [h1]; exact hst⟩
          exact ⟨by rw [HTN.out, if_pos h2], h1, by rw [HTB.out, if_pos h2]⟩)
        clear hbit hk
        go_wp2_with fail
        go_region
        go_wp2
        refine ⟨⟨j + 1, by omega, by go_num, by rw [HNX.out.1]; go_num, by rw [HNX.out.2.1]; rfl, ?_, ?_⟩, by simp [intOf]; omega⟩
        · rw [HNX.out.2.2, flip1, ← HX.out]
          have := HW.out
          rw [← HV.out] at this
          exact this
        · exact (HBj.out.setCell (by exact HG.out) _).drew
      · have hS0i : ((Sj : Int) == 0) = false := by simp; omega
        by_cases hSs : Sj = 1
        · subst hSs
          have HNX := Lib.hid (show tuN 500 n at_ mask (j + 1) = Nj + 1 ∧ tuS 500 n at_ mask (j + 1) = 1 ∧ tuB 500 at_ mask l (j + 1) = flip1 (tuB 500 at_ mask l j) (at_ + j) from by
            have h1 : tuS 500 n at_ mask (j + 1) = 1 := by rw [HTS.out, if_neg (fun h => hS0 h.2.2)]
            have h2 : tuH 500 n at_ mask j := HTH.out.2 ⟨hbit, hk, by rw [h1]; exact hst⟩
            exact ⟨by rw [HTN.out, if_pos h2], h1, by rw [HTB.out, if_pos h2]⟩)
          clear hbit hk
          go_wp2_with fail
          go_region
          go_wp2
          refine ⟨⟨j + 1, by omega, by go_num, by rw [HNX.out.1]; go_num, by rw [HNX.out.2.1]; rfl, ?_, ?_⟩, by simp [intOf]; omega⟩
          · rw [HNX.out.2.2, flip1, ← HX.out]
            have := HW.out
            rw [← HV.out] at this
            exact this
          · exact (HBj.out.setCell (by exact HG.out) _).drew
        · have hne : ((1 : Int) == (Sj : Int)) = false := by simp; omega
          have HNX := Lib.hid (show tuN 500 n at_ mask (j + 1) = Nj ∧ tuS 500 n at_ mask (j + 1) = Sj ∧ tuB 500 at_ mask l (j + 1) = tuB 500 at_ mask l j from by
            have h1 : tuS 500 n at_ mask (j + 1) = Sj := by rw [HTS.out, if_neg (fun h => hS0 h.2.2)]
            have h2 : ¬ tuH 500 n at_ mask j := fun h => hSs (by rw [← h1, ← h.2.2]; exact hst)
            exact ⟨by rw [HTN.out, if_neg h2], h1, by rw [HTB.out, if_neg h2]⟩)
          clear hbit hk
          go_wp2
          exact ⟨⟨j + 1, by omega, by go_num, by rw [HNX.out.1], by rw [HNX.out.2.1], by rw [HNX.out.2.2]; exact HOj.out, HBj.out⟩, by simp [intOf]; omega⟩
    · obtain rfl : j = 32 := by omega
      go_wp2
      go_ret2
      exact ⟨_, rfl, HOj.out, HBj.out⟩
end Go.Proofs.Ytggoaelbglhehaa
/- AnchorBack: a superblock there and back; a burst is told: the walk. -/
set_option linter.unusedVariables false
set_option linter.unusedSimpArgs false
set_option maxRecDepth 100000
namespace Go.Proofs.Ytggoaelbglhehaa
open Go.RowKit SumMath
theorem enc_good (s : Sp) : Good 500 (encL s) := by
  unfold Good
  have h1 : seg (encL s) 500 4 = leB 4 ((sumS (headL s)).toNat : Nat) := by
    have h9 := seg_same (headL s) (leB 4 ((sumS (headL s)).toNat : Nat)) 500 (by rw [headL_len, leB_len]; omega)
    rw [leB_len] at h9
    exact h9
  have h2 : bodyL 500 (encL s) = (headL s).take 500 ++ (headL s).drop 504 := by
    have hl := headL_len s
    unfold bodyL encL splice
    have ht : ((headL s).take 500).length = 500 := by rw [List.length_take, hl]; rfl
    have hx : (leB 4 ((sumS (headL s)).toNat : Nat)).length = 4 := leB_len _ _
    rw [List.take_append_of_le_length (by omega), List.take_of_length_le (by omega), List.drop_append, ht, hx]
    rw [List.drop_eq_nil_of_le (by omega), List.nil_append, List.drop_append, hx, List.drop_eq_nil_of_le (by omega)]
    simp
  rw [h1, h2, crc_append]; rfl
theorem dec_told (s : Sp) (at_ : Nat) (mask : BitVec 32) (hn : 0 < tuN 500 512 at_ mask 32) : (decG (tuB 500 at_ mask (encL s) 32)).2 ≠ 0 := fun h => by
  obtain ⟨h1, h2, h3⟩ := decG_ok h
  have h4 := tu_told 500 at_ mask (encL s) (by omega) (by rw [encL_len]; omega) (enc_good s) (by rw [encL_len]; exact hn)
  apply h4
  rw [← h3]
  exact enc_good _
theorem enc_first (s : Sp) : (encL s).getD 0 0 = 66 := by
  have h1 := encL_seg s 0 1 (.inl (by omega))
  have h2 : seg (headL s) 0 1 = seg magL 0 1 := laidF_other 0 1 (flds s) magL magL_len (fun f hf => ⟨flds_in s f hf, .inl (by
    simp only [flds, List.mem_cons, List.not_mem_nil, or_false] at hf
    rcases hf with rfl | rfl | rfl | rfl | rfl | rfl | rfl | rfl | rfl | rfl | rfl <;> (dsimp only; omega))⟩)
  have h3 : seg magL 0 1 = [66] := rfl
  have h4 := seg_getD (encL s) 0 1 0 (by omega)
  rw [h1, h2, h3] at h4
  exact h4.symm
/-- turned, at any place -/
theorem l11_turnedG (A : Option Addr) (c : Nat) (s : Sp) (at_ : Int) (mask : BitVec 32) (w : World) (hr : Rd w A 512 c (encL s)) :
    Calls Try.prog 17 #[.slice A 512 c, .int .i64 at_, .int .u32 mask.toNat] w fun e w' => ∃ A' c' Y, ∃ k : Nat, e = .returned (.tuple #[.slice A' 512 c', .int .i64 k]) ∧ Rd w' A' 512 c' Y ∧ (0 < k → (decG Y).2 ≠ 0) ∧ Below w.heap.size w w' := by
  by_cases ho : at_ < 0 ∨ 8 * ((512 : Nat) : Int) ≤ at_
  · refine (l11_turned_out A 512 c (encL s) at_ mask w hr (by omega) ho).mono ?_
    rintro e w' ⟨v, rfl, hO, hb⟩
    obtain ⟨A1, c1, rfl, hR⟩ := hO.rd (by omega)
    exact ⟨A1, c1, _, 0, rfl, hR, fun h => absurd h (by omega), hb⟩
  · obtain ⟨k, rfl⟩ : ∃ k : Nat, at_ = k := ⟨at_.toNat, by omega⟩
    refine (l11_turned A 512 c (encL s) k mask w hr (by omega) (by omega)).mono ?_
    rintro e w' ⟨v, rfl, hO, hb⟩
    obtain ⟨A1, c1, rfl, hR⟩ := hO.rd (by omega)
    exact ⟨A1, c1, _, _, rfl, hR, fun h => dec_told s k mask h, hb⟩
theorem decG_code (L : List UInt8) (h : (decG L).2 ≠ 0) : (decG L).1 = zSp ∧ ((decG L).2 = 2 ↔ L.length = 512) := by
  unfold decG at h ⊢
  split at h
  · rename_i h1; rw [if_pos h1]; exact ⟨rfl, by simp; exact h1⟩
  · rename_i h1
    rw [if_neg h1]
    split at h
    · simp at h
    · rename_i h2; rw [if_neg h2]; exact ⟨rfl, by simp at h1 ⊢; exact h1⟩
set_option maxHeartbeats 1600000 in
theorem walk_AnchorBack (s : Sp) (at_ : Int) (mask : BitVec 32) (A : Option Addr) (n c : Nat) (L : List UInt8) (w : World) (hs : s.ok) (_ : -9223372036854775808 ≤ at_ ∧ at_ < 9223372036854775808) (hr : Rd w A n c L) (hz : n ≤ 140737488351232) :
    Calls Try.prog 4 #[.agg (spC s), .int .i64 at_, .int .u32 mask.toNat, .slice A n c] w fun e w' => e = .returned (.bool true) ∧ Below w.heap.size w w' := by
  obtain ⟨q, hq0⟩ : ∃ q, q = w.heap.size := ⟨_, rfl⟩
  have HEN := Lib.hid (an_EncodeG s hs)
  have HV3 := Lib.hid (an_Valid s s.blocks hs)
  have HX := Lib.hid (heap_alloc_new w (spO s))
  have HB0 := Lib.hid ((Below.refl _ w).alloc (Nat.le_refl _) (spO s))
  have HCB := Lib.hid (show ∀ W : World, W.heap[q]? = some (spO s) → _ from fun W h => cell9 h)
  rw [← hq0] at HX
  have HDE := Lib.hid (show Vld s s.blocks → decG (encL s) = (s, 0) from fun h => decG_enc s h)
  have HTU := Lib.hid (fun (A : Option Addr) (c : Nat) (W : World) (h : Rd W A 512 c (encL s)) => l11_turnedG A c s at_ mask W h)
  have HEF := Lib.hid (enc_first s)
  obtain ⟨XL, hXL⟩ : ∃ XL, XL = encL s := ⟨_, rfl⟩
  have HXL := Lib.hid (show XL.length = 512 by rw [hXL, encL_len])
  rw [← hXL] at HEN HDE HTU HEF
  have HR := Lib.hid hr
  have HLN := Lib.hid hr.len
  have hmk := mask.isLt
  obtain ⟨mk, hmk2⟩ : ∃ mk, mk = mask.toNat := ⟨_, rfl⟩
  rw [← hmk2] at HTU hmk ⊢
  clear hs hr hXL hmk2
  obtain ⟨sg, se, sb, sl, ss, sa, sr, sc, sv⟩ := s
  unfold spC at HEN HV3 ⊢
  dsimp only at HEN HV3 HCB HDE ⊢
  have HQ := Lib.hid hq0
  clear hq0
  go_enter Try.func4, Try.ntmps4
  go_wp2_with fail
  obtain ⟨W1, hW1⟩ : ∃ W1, W1 = w.alloc (.cells #[.int .i64 sg, .int .i64 se, .int .i64 sb, .int .i64 sl, .int .i64 ss, .int .i64 sa, .int .i64 sr, .int .i64 sc, .int .i64 sv] 25) := ⟨_, rfl⟩
  rw [← hW1, ← HQ.out]
  have HX1 := Lib.hid (show W1.heap[q]? = some (spO ⟨sg, se, sb, sl, ss, sa, sr, sc, sv⟩) by rw [hW1]; exact HX.out)
  have HB1 := Lib.hid (show Below w.heap.size w W1 by rw [hW1]; exact HB0.out)
  clear hW1 HX HB0
  refine (l11_fixed W1).mono ?_
  rintro e w2 ⟨rfl, hB⟩
  have HX2 := Lib.hid ((hB.block q (lt_of_block HX1.out)).trans HX1.out)
  have HB2 := Lib.hid (HB1.out.trans (hB.mono HB1.out.size))
  have hd := HCB.out _ HX2.out
  clear hB
  go_wp2_with fail
  refine (HEN.out _).mono ?_
  rintro e w3 ⟨A3, n3, c3, rfl, hr3, hB⟩
  have HX3 := Lib.hid ((hB.block q (lt_of_block HX2.out)).trans HX2.out)
  have HB3 := Lib.hid (HB2.out.trans (hB.mono HB2.out.size))
  clear hd
  have hd := HCB.out _ HX3.out
  clear hB
  by_cases hv : Vld ⟨sg, se, sb, sl, ss, sa, sr, sc, sv⟩ sb
  rotate_left
  · rw [if_neg hv] at hr3
    rw [if_neg hv]
    rw [decide_eq_false hv] at HV3
    obtain rfl : n3 = 0 := by have := hr3.len; simpa using this.symm
    clear hr3
    go_wp2_with fail
    refine (HV3.out _).mono ?_
    rintro e w4 ⟨rfl, hB⟩
    have HB4 := Lib.hid (HB3.out.trans (hB.mono HB3.out.size))
    have HRB := Lib.hid (HR.out.ext HB4.out)
    clear hB hd
    go_wp2_with fail
    refine (l11_own _ A n c L HRB.out (by omega)).mono ?_
    rintro e w20 ⟨u20, rfl, hO, hB⟩
    obtain ⟨A20, c20, rfl, hR20⟩ := hO.rd (by omega)
    have HD20 := Lib.hid (an_Decode A20 n c20 L w20 hR20)
    have HB20 := Lib.hid (HB4.out.trans (hB.mono HB4.out.size))
    have HRB20 := Lib.hid (HRB.out.ext hB)
    obtain ⟨C, hC⟩ : ∃ C, C = (decG L).1 := ⟨_, rfl⟩
    obtain ⟨k, hk⟩ : ∃ k, k = (decG L).2 := ⟨_, rfl⟩
    have HCO := Lib.hid (show k ≠ 0 → C = zSp ∧ (k = 2 ↔ L.length = 512) from fun h => by rw [hC, hk]; exact decG_code L (by rw [← hk]; exact h))
    have HOK := Lib.hid (show k = 0 → L.length = 512 ∧ Vld C C.blocks ∧ encL C = L from fun h => by rw [hC]; exact decG_ok (by rw [← hk]; exact h))
    have HCK := Lib.hid (show C.ok by rw [hC]; exact decG_okS L)
    rw [← hC, ← hk] at HD20
    clear hO hB hR20 hC hk
    go_wp2_with fail
    refine HD20.out.mono ?_
    rintro e w21 ⟨rfl, hB⟩
    obtain ⟨q21, hq21⟩ : ∃ q21, q21 = w21.heap.size := ⟨_, rfl⟩
    obtain ⟨W21, hW21⟩ : ∃ W21, W21 = w21.alloc (spO C) := ⟨_, rfl⟩
    have HX21 := Lib.hid (show W21.heap[q21]? = some (spO C) by rw [hW21, hq21]; exact heap_alloc_new w21 _)
    have HB21 := Lib.hid (show Below w20.heap.size w20 W21 by rw [hW21]; exact hB.alloc hB.size _)
    have HB22 := Lib.hid (HB20.out.trans (HB21.out.mono HB20.out.size))
    have HRB21 := Lib.hid (HRB20.out.ext HB21.out)
    have HQ21 := Lib.hid hq21
    have HW21 := Lib.hid hW21
    clear hB hq21 hW21 HD20
    by_cases hk0 : k = 0
    rotate_left
    · obtain ⟨rfl, hk2⟩ := HCO.out hk0
      have hkb : (k != 0) = true := by simp [hk0]
      have hfin : (k == 2) = ((n : Int) == 512) := by
        rw [HLN.out] at hk2
        by_cases h5 : n = 512
        · rw [hk2.2 h5, h5]; rfl
        · have h6 : ¬ k = 2 := fun h => h5 (hk2.1 h)
          have h7 : ¬ (n : Int) = 512 := by omega
          rw [beq_eq_false_iff_ne.2 h6, beq_eq_false_iff_ne.2 h7]
      unfold spC zSp
      dsimp only
      go_wp2
      go_ret
      refine ⟨?_, ?_⟩
      · rfl
      · have h9 := HW21.out; have h8 := HB22.out; rw [h9] at h8; exact h8
    · subst hk0
      obtain ⟨h1, h2, h3⟩ := HOK.out rfl
      have HEC := Lib.hid (an_EncodeG C HCK.out)
      rw [if_pos h2, if_pos h2, h3] at HEC
      have HVC := Lib.hid (an_Valid C C.blocks HCK.out)
      rw [decide_eq_true h2] at HVC
      have HVD := Lib.hid (an_Valid C (C.blocks + 1) HCK.out)
      rw [decide_eq_false (fun h => by have := h.blocks; omega)] at HVD
      have hbl := h2.blocks
      have hlo := h2.lo
      have hhi := h2.hi
      have HCC := Lib.hid (show ∀ W : World, W.heap[q21]? = some (spO C) → _ from fun W h => cell9 h)
      clear h1 h2 h3 hbl
      obtain ⟨cg, ce, cb, cl, cs, ca, cr, cc, cv⟩ := C
      unfold spC at HEC HVC HVD ⊢
      dsimp only at HEC HVC HVD HCC hlo hhi ⊢
      have hw1 : IntKind.i64.wrap (cb + 1) = cb + 1 := by simp [IntKind.wrap, IntKind.bits, IntKind.signed]; omega
      have hW21 := HW21.out
      unfold spO spC at hW21
      dsimp only at hW21
      have HW22 := Lib.hid hW21
      clear hW21
      go_wp2_with fail
      rw [← HW22.out, ← HQ21.out]
      refine (HEC.out _).mono ?_
      rintro e w23 ⟨A23, n23, c23, rfl, hr23, hB⟩
      have HX23 := Lib.hid ((hB.block q21 (lt_of_block HX21.out)).trans HX21.out)
      have HSM := Lib.hid (l11_same A23 A n23 c23 n c L L w23 hr23 (HRB21.out.ext hB))
      rw [decide_eq_true rfl] at HSM
      have HB23 := Lib.hid (HB22.out.trans (hB.mono HB22.out.size))
      have hd23 := HCC.out _ HX23.out
      clear hr23 hB
      go_wp2_with fail
      refine HSM.out.mono ?_
      rintro e w24 ⟨rfl, hw24⟩
      rw [hw24]
      clear hw24
      go_wp2_with fail
      refine (HVC.out _).mono ?_
      rintro e w25 ⟨rfl, hB⟩
      have HX25 := Lib.hid ((hB.block q21 (lt_of_block HX23.out)).trans HX23.out)
      have HB25 := Lib.hid (HB23.out.trans (hB.mono HB23.out.size))
      clear hd23
      have hd25 := HCC.out _ HX25.out
      clear hB
      go_wp2_with fail
      refine (HVD.out _).mono ?_
      rintro e w26 ⟨rfl, hB⟩
      have HB26 := Lib.hid (HB25.out.trans (hB.mono HB25.out.size))
      clear hB hd25
      go_wp2
      go_ret
      exact ⟨rfl, HB26.out⟩
  rw [if_pos hv] at hr3
  rw [if_pos hv]
  rw [decide_eq_true hv] at HV3
  obtain rfl : n3 = 512 := by have := hr3.len; rw [HXL.out] at this; exact this.symm
  have HR3 := Lib.hid hr3
  have HDS := Lib.hid (HDE.out hv)
  clear hr3
  go_wp2_with fail
  refine (HV3.out _).mono ?_
  rintro e w4 ⟨rfl, hB⟩
  have HB4 := Lib.hid (HB3.out.trans (hB.mono HB3.out.size))
  have HX4 := Lib.hid ((hB.block q (lt_of_block HX3.out)).trans HX3.out)
  have HR4 := Lib.hid (HR3.out.ext hB)
  clear hB hd
  go_wp2_with fail
  refine (l11_own _ A3 512 c3 XL HR4.out (by omega)).mono ?_
  rintro e w5 ⟨u5, rfl, hO, hB⟩
  obtain ⟨A5, c5, rfl, hR5⟩ := hO.rd (by omega)
  have HD5 := Lib.hid (an_Decode A5 512 c5 XL w5 hR5)
  rw [HDS.out] at HD5
  have HB5 := Lib.hid (HB4.out.trans (hB.mono HB4.out.size))
  have HX5 := Lib.hid ((hB.block q (lt_of_block HX4.out)).trans HX4.out)
  have HR5 := Lib.hid (HR4.out.ext hB)
  clear hO hB hR5
  unfold spC at HD5
  dsimp only at HD5
  go_wp2_with fail
  refine HD5.out.mono ?_
  rintro e w6 ⟨rfl, hB⟩
  obtain ⟨q6, hq6⟩ : ∃ q6, q6 = w6.heap.size := ⟨_, rfl⟩
  obtain ⟨W6, hW6⟩ : ∃ W6, W6 = w6.alloc (.cells #[.int .i64 sg, .int .i64 se, .int .i64 sb, .int .i64 sl, .int .i64 ss, .int .i64 sa, .int .i64 sr, .int .i64 sc, .int .i64 sv] 25) := ⟨_, rfl⟩
  have HX66 := Lib.hid (show W6.heap[q6]? = some (spO ⟨sg, se, sb, sl, ss, sa, sr, sc, sv⟩) by rw [hW6, hq6]; exact heap_alloc_new w6 _)
  have HB56 := Lib.hid (show Below w5.heap.size w5 W6 by rw [hW6]; exact hB.alloc hB.size _)
  have HB6 := Lib.hid (HB5.out.trans (HB56.out.mono HB5.out.size))
  have HX6 := Lib.hid ((HB56.out.block q (lt_of_block HX5.out)).trans HX5.out)
  have HR6 := Lib.hid (HR5.out.ext HB56.out)
  have HQ6 := Lib.hid hq6
  have HW6 := Lib.hid hW6
  clear hB hq6 hW6 HD5
  go_wp2_with fail
  rw [← HW6.out, ← HQ6.out]
  refine (HTU.out A3 c3 W6 HR6.out).mono ?_
  rintro e w7 ⟨A7, c7, Y, m, rfl, hr7, htold, hB⟩
  have HD7 := Lib.hid (an_Decode A7 512 c7 Y w7 hr7)
  obtain ⟨C7, hC7⟩ : ∃ C7, C7 = (decG Y).1 := ⟨_, rfl⟩
  obtain ⟨k7, hk7⟩ : ∃ k7, k7 = (decG Y).2 := ⟨_, rfl⟩
  rw [← hC7, ← hk7] at HD7
  rw [← hk7] at htold
  have HX67 := Lib.hid ((hB.block q6 (lt_of_block HX66.out)).trans HX66.out)
  have HX7 := Lib.hid ((hB.block q (lt_of_block HX6.out)).trans HX6.out)
  have HR7 := Lib.hid (HR6.out.ext hB)
  have HB7 := Lib.hid (HB6.out.trans (hB.mono HB6.out.size))
  have HTD := Lib.hid htold
  clear hB hr7 hC7 hk7 htold
  go_wp2_with fail
  refine HD7.out.mono ?_
  rintro e w8 ⟨rfl, hB⟩
  obtain ⟨q8, hq8⟩ : ∃ q8, q8 = w8.heap.size := ⟨_, rfl⟩
  obtain ⟨d0, d1, d2, d3, d4, d5, d6, d7, d8⟩ := C7
  obtain ⟨W8, hW8⟩ : ∃ W8, W8 = w8.alloc (spO ⟨d0, d1, d2, d3, d4, d5, d6, d7, d8⟩) := ⟨_, rfl⟩
  have HB78 := Lib.hid (show Below w7.heap.size w7 W8 by rw [hW8]; exact hB.alloc hB.size _)
  have HB8 := Lib.hid (HB7.out.trans (HB78.out.mono HB7.out.size))
  have hX68 := (HB78.out.block q6 (lt_of_block HX67.out)).trans HX67.out
  have hX8 := (HB78.out.block q (lt_of_block HX7.out)).trans HX7.out
  have HRB := Lib.hid (HR.out.ext HB8.out)
  have hc6 := cell9 hX68
  have hc8 := HCB.out _ hX8
  have hRX := HR7.out.ext HB78.out
  obtain ⟨bx, ox, rfl, hcx⟩ := hRX.at_ (by omega)
  have hx0 := hcx 0 (by omega)
  rw [HEF.out, Nat.add_zero] at hx0
  have hx0' : W8.cell? ⟨bx, ox, none⟩ = some (.int .u8 66) := hx0
  have hW8b := hW8
  unfold spO spC at hW8b
  dsimp only at hW8b hc6
  rw [hW8b] at hc6 hc8 hx0'
  have HW8 := Lib.hid hW8b
  have HTM := Lib.hid (show m = 0 ∨ ¬ k7 = 0 from by
    rcases Nat.eq_zero_or_pos m with h | h
    · exact .inl h
    · exact .inr (HTD.out h))
  clear hB hX68 hX8 hRX hcx hx0 hW8 hW8b HD7 hq8 hv
  unfold spC
  dsimp only
  have hkk : (((m : Int) > 0) ∧ k7 = 0) → False := fun ⟨h, h0⟩ => by rcases HTM.out with h1 | h1 <;> omega
  by_cases hm0 : m = 0
  · subst hm0
    go_wp2_with fail
    rw [← HW8.out]
    clear hc6 hc8 hx0'
    refine (l11_own _ A n c L HRB.out (by omega)).mono ?_
    rintro e w20 ⟨u20, rfl, hO, hB⟩
    obtain ⟨A20, c20, rfl, hR20⟩ := hO.rd (by omega)
    have HD20 := Lib.hid (an_Decode A20 n c20 L w20 hR20)
    have HB20 := Lib.hid (HB8.out.trans (hB.mono HB8.out.size))
    have HRB20 := Lib.hid (HRB.out.ext hB)
    obtain ⟨C, hC⟩ : ∃ C, C = (decG L).1 := ⟨_, rfl⟩
    obtain ⟨k, hk⟩ : ∃ k, k = (decG L).2 := ⟨_, rfl⟩
    have HCO := Lib.hid (show k ≠ 0 → C = zSp ∧ (k = 2 ↔ L.length = 512) from fun h => by rw [hC, hk]; exact decG_code L (by rw [← hk]; exact h))
    have HOK := Lib.hid (show k = 0 → L.length = 512 ∧ Vld C C.blocks ∧ encL C = L from fun h => by rw [hC]; exact decG_ok (by rw [← hk]; exact h))
    have HCK := Lib.hid (show C.ok by rw [hC]; exact decG_okS L)
    rw [← hC, ← hk] at HD20
    clear hO hB hR20 hC hk
    go_wp2_with fail
    refine HD20.out.mono ?_
    rintro e w21 ⟨rfl, hB⟩
    obtain ⟨q21, hq21⟩ : ∃ q21, q21 = w21.heap.size := ⟨_, rfl⟩
    obtain ⟨W21, hW21⟩ : ∃ W21, W21 = w21.alloc (spO C) := ⟨_, rfl⟩
    have HX21 := Lib.hid (show W21.heap[q21]? = some (spO C) by rw [hW21, hq21]; exact heap_alloc_new w21 _)
    have HB21 := Lib.hid (show Below w20.heap.size w20 W21 by rw [hW21]; exact hB.alloc hB.size _)
    have HB22 := Lib.hid (HB20.out.trans (HB21.out.mono HB20.out.size))
    have HRB21 := Lib.hid (HRB20.out.ext HB21.out)
    have HQ21 := Lib.hid hq21
    have HW21 := Lib.hid hW21
    clear hB hq21 hW21 HD20
    by_cases hk0 : k = 0
    rotate_left
    · obtain ⟨rfl, hk2⟩ := HCO.out hk0
      have hkb : (k != 0) = true := by simp [hk0]
      have hfin : (k == 2) = ((n : Int) == 512) := by
        rw [HLN.out] at hk2
        by_cases h5 : n = 512
        · rw [hk2.2 h5, h5]; rfl
        · have h6 : ¬ k = 2 := fun h => h5 (hk2.1 h)
          have h7 : ¬ (n : Int) = 512 := by omega
          rw [beq_eq_false_iff_ne.2 h6, beq_eq_false_iff_ne.2 h7]
      unfold spC zSp
      dsimp only
      go_wp2
      go_ret
      refine ⟨?_, ?_⟩
      · rfl
      · have h9 := HW21.out; have h8 := HB22.out; rw [h9] at h8; exact h8
    · subst hk0
      obtain ⟨h1, h2, h3⟩ := HOK.out rfl
      have HEC := Lib.hid (an_EncodeG C HCK.out)
      rw [if_pos h2, if_pos h2, h3] at HEC
      have HVC := Lib.hid (an_Valid C C.blocks HCK.out)
      rw [decide_eq_true h2] at HVC
      have HVD := Lib.hid (an_Valid C (C.blocks + 1) HCK.out)
      rw [decide_eq_false (fun h => by have := h.blocks; omega)] at HVD
      have hbl := h2.blocks
      have hlo := h2.lo
      have hhi := h2.hi
      have HCC := Lib.hid (show ∀ W : World, W.heap[q21]? = some (spO C) → _ from fun W h => cell9 h)
      clear h1 h2 h3 hbl
      obtain ⟨cg, ce, cb, cl, cs, ca, cr, cc, cv⟩ := C
      unfold spC at HEC HVC HVD ⊢
      dsimp only at HEC HVC HVD HCC hlo hhi ⊢
      have hw1 : IntKind.i64.wrap (cb + 1) = cb + 1 := by simp [IntKind.wrap, IntKind.bits, IntKind.signed]; omega
      have hW21 := HW21.out
      unfold spO spC at hW21
      dsimp only at hW21
      have HW22 := Lib.hid hW21
      clear hW21
      go_wp2_with fail
      rw [← HW22.out, ← HQ21.out]
      refine (HEC.out _).mono ?_
      rintro e w23 ⟨A23, n23, c23, rfl, hr23, hB⟩
      have HX23 := Lib.hid ((hB.block q21 (lt_of_block HX21.out)).trans HX21.out)
      have HSM := Lib.hid (l11_same A23 A n23 c23 n c L L w23 hr23 (HRB21.out.ext hB))
      rw [decide_eq_true rfl] at HSM
      have HB23 := Lib.hid (HB22.out.trans (hB.mono HB22.out.size))
      have hd23 := HCC.out _ HX23.out
      clear hr23 hB
      go_wp2_with fail
      refine HSM.out.mono ?_
      rintro e w24 ⟨rfl, hw24⟩
      rw [hw24]
      clear hw24
      go_wp2_with fail
      refine (HVC.out _).mono ?_
      rintro e w25 ⟨rfl, hB⟩
      have HX25 := Lib.hid ((hB.block q21 (lt_of_block HX23.out)).trans HX23.out)
      have HB25 := Lib.hid (HB23.out.trans (hB.mono HB23.out.size))
      clear hd23
      have hd25 := HCC.out _ HX25.out
      clear hB
      go_wp2_with fail
      refine (HVD.out _).mono ?_
      rintro e w26 ⟨rfl, hB⟩
      have HB26 := Lib.hid (HB25.out.trans (hB.mono HB25.out.size))
      clear hB hd25
      go_wp2
      go_ret
      exact ⟨rfl, HB26.out⟩
  · have hm1 : (0 : Int) < (m : Int) := by omega
    have hk7 : ¬ k7 = 0 := by rcases HTM.out with h | h <;> omega
    have hk7b : (k7 == 0) = false := by simp [hk7]
    go_wp2_with fail
    rw [← HW8.out]
    clear hc6 hc8 hx0'
    refine (l11_own _ A n c L HRB.out (by omega)).mono ?_
    rintro e w20 ⟨u20, rfl, hO, hB⟩
    obtain ⟨A20, c20, rfl, hR20⟩ := hO.rd (by omega)
    have HD20 := Lib.hid (an_Decode A20 n c20 L w20 hR20)
    have HB20 := Lib.hid (HB8.out.trans (hB.mono HB8.out.size))
    have HRB20 := Lib.hid (HRB.out.ext hB)
    obtain ⟨C, hC⟩ : ∃ C, C = (decG L).1 := ⟨_, rfl⟩
    obtain ⟨k, hk⟩ : ∃ k, k = (decG L).2 := ⟨_, rfl⟩
    have HCO := Lib.hid (show k ≠ 0 → C = zSp ∧ (k = 2 ↔ L.length = 512) from fun h => by rw [hC, hk]; exact decG_code L (by rw [← hk]; exact h))
    have HOK := Lib.hid (show k = 0 → L.length = 512 ∧ Vld C C.blocks ∧ encL C = L from fun h => by rw [hC]; exact decG_ok (by rw [← hk]; exact h))
    have HCK := Lib.hid (show C.ok by rw [hC]; exact decG_okS L)
    rw [← hC, ← hk] at HD20
    clear hO hB hR20 hC hk
    go_wp2_with fail
    refine HD20.out.mono ?_
    rintro e w21 ⟨rfl, hB⟩
    obtain ⟨q21, hq21⟩ : ∃ q21, q21 = w21.heap.size := ⟨_, rfl⟩
    obtain ⟨W21, hW21⟩ : ∃ W21, W21 = w21.alloc (spO C) := ⟨_, rfl⟩
    have HX21 := Lib.hid (show W21.heap[q21]? = some (spO C) by rw [hW21, hq21]; exact heap_alloc_new w21 _)
    have HB21 := Lib.hid (show Below w20.heap.size w20 W21 by rw [hW21]; exact hB.alloc hB.size _)
    have HB22 := Lib.hid (HB20.out.trans (HB21.out.mono HB20.out.size))
    have HRB21 := Lib.hid (HRB20.out.ext HB21.out)
    have HQ21 := Lib.hid hq21
    have HW21 := Lib.hid hW21
    clear hB hq21 hW21 HD20
    by_cases hk0 : k = 0
    rotate_left
    · obtain ⟨rfl, hk2⟩ := HCO.out hk0
      have hkb : (k != 0) = true := by simp [hk0]
      have hfin : (k == 2) = ((n : Int) == 512) := by
        rw [HLN.out] at hk2
        by_cases h5 : n = 512
        · rw [hk2.2 h5, h5]; rfl
        · have h6 : ¬ k = 2 := fun h => h5 (hk2.1 h)
          have h7 : ¬ (n : Int) = 512 := by omega
          rw [beq_eq_false_iff_ne.2 h6, beq_eq_false_iff_ne.2 h7]
      unfold spC zSp
      dsimp only
      go_wp2
      go_ret
      refine ⟨?_, ?_⟩
      · rfl
      · have h9 := HW21.out; have h8 := HB22.out; rw [h9] at h8; exact h8
    · subst hk0
      obtain ⟨h1, h2, h3⟩ := HOK.out rfl
      have HEC := Lib.hid (an_EncodeG C HCK.out)
      rw [if_pos h2, if_pos h2, h3] at HEC
      have HVC := Lib.hid (an_Valid C C.blocks HCK.out)
      rw [decide_eq_true h2] at HVC
      have HVD := Lib.hid (an_Valid C (C.blocks + 1) HCK.out)
      rw [decide_eq_false (fun h => by have := h.blocks; omega)] at HVD
      have hbl := h2.blocks
      have hlo := h2.lo
      have hhi := h2.hi
      have HCC := Lib.hid (show ∀ W : World, W.heap[q21]? = some (spO C) → _ from fun W h => cell9 h)
      clear h1 h2 h3 hbl
      obtain ⟨cg, ce, cb, cl, cs, ca, cr, cc, cv⟩ := C
      unfold spC at HEC HVC HVD ⊢
      dsimp only at HEC HVC HVD HCC hlo hhi ⊢
      have hw1 : IntKind.i64.wrap (cb + 1) = cb + 1 := by simp [IntKind.wrap, IntKind.bits, IntKind.signed]; omega
      have hW21 := HW21.out
      unfold spO spC at hW21
      dsimp only at hW21
      have HW22 := Lib.hid hW21
      clear hW21
      go_wp2_with fail
      rw [← HW22.out, ← HQ21.out]
      refine (HEC.out _).mono ?_
      rintro e w23 ⟨A23, n23, c23, rfl, hr23, hB⟩
      have HX23 := Lib.hid ((hB.block q21 (lt_of_block HX21.out)).trans HX21.out)
      have HSM := Lib.hid (l11_same A23 A n23 c23 n c L L w23 hr23 (HRB21.out.ext hB))
      rw [decide_eq_true rfl] at HSM
      have HB23 := Lib.hid (HB22.out.trans (hB.mono HB22.out.size))
      have hd23 := HCC.out _ HX23.out
      clear hr23 hB
      go_wp2_with fail
      refine HSM.out.mono ?_
      rintro e w24 ⟨rfl, hw24⟩
      rw [hw24]
      clear hw24
      go_wp2_with fail
      refine (HVC.out _).mono ?_
      rintro e w25 ⟨rfl, hB⟩
      have HX25 := Lib.hid ((hB.block q21 (lt_of_block HX23.out)).trans HX23.out)
      have HB25 := Lib.hid (HB23.out.trans (hB.mono HB23.out.size))
      clear hd23
      have hd25 := HCC.out _ HX25.out
      clear hB
      go_wp2_with fail
      refine (HVD.out _).mono ?_
      rintro e w26 ⟨rfl, hB⟩
      have HB26 := Lib.hid (HB25.out.trans (hB.mono HB25.out.size))
      clear hB hd25
      go_wp2
      go_ret
      exact ⟨rfl, HB26.out⟩
end Go.Proofs.Ytggoaelbglhehaa
/- AnchorCounts, plain: one bit turned over is told. -/
set_option linter.unusedVariables false
set_option linter.unusedSimpArgs false
set_option maxRecDepth 100000
namespace Go.Proofs.Ytggoaelbglhehaa
open Go.RowKit SumMath
def flipL (x : List UInt8) (a : Nat) : List UInt8 := x.set a (x.getD a 0 ^^^ 1)
theorem flips_one (x : List UInt8) (a : Nat) (ha : a < x.length) : ∀ n, flips x (8 * a) 1#32 (n + 1) = flipL x a
  | 0 => by
    have h1 : 8 * a / 8 = a := by omega
    have h2 : 8 * a % 8 = 0 := by omega
    have h3 : (1#32).getLsbD 0 = true := by decide
    unfold flips flips
    rw [if_pos ⟨h3, by omega⟩]
    unfold flip1 flipL
    rw [Nat.add_zero, h1, h2]; rfl
  | n + 1 => by
    have h3 : (1#32).getLsbD (n + 1) = false := by simp
    unfold flips
    rw [flips_one x a ha n, if_neg (by rw [h3]; simp)]
theorem u8_flip (u : UInt8) : u ^^^ 1 ≠ u := fun h => by
  have h9 : u ^^^ 1 ^^^ u = 1 := by rw [UInt8.xor_comm u 1, UInt8.xor_assoc, UInt8.xor_self, UInt8.xor_zero]
  rw [h, UInt8.xor_self] at h9
  exact absurd h9 (by decide)
theorem flip_told (s : Sp) (a : Nat) (ha : a < 512) : (decG (flipL (encL s) a)).2 ≠ 0 := fun h => by
  obtain ⟨h1, h2, h3⟩ := decG_ok h
  have hl := encL_len s
  have h4 : flips (encL s) (8 * a) 1#32 32 = flipL (encL s) a := flips_one (encL s) a (by omega) 31
  have hb : ∀ i, i < 32 → (1#32).getLsbD i = true → i = 0 := fun i _ h => by
    simp at h; omega
  have h5 := burst_blk 500 (encL s) (8 * a) 1#32 (by omega) (by omega) (enc_good s) (by
    by_cases k1 : a < 500
    · exact .inl fun i hi hm _ => by have := hb i hi hm; omega
    · by_cases k2 : a < 504
      · exact .inr (.inl fun i hi hm _ => by have := hb i hi hm; omega)
      · exact .inr (.inr fun i hi hm _ => by have := hb i hi hm; omega)) (by rw [h4, ← h3]; exact enc_good _)
  rw [h4] at h5
  have h6 : (flipL (encL s) a).getD a 0 = (encL s).getD a 0 := by rw [h5]
  have h7 : (flipL (encL s) a).getD a 0 = (encL s).getD a 0 ^^^ 1 := by
    unfold flipL
    simp [List.getD, show a < (encL s).length by omega]
  rw [h7] at h6
  exact u8_flip _ h6
/-- what counts of two blocks' bytes -/
theorem anR_two (D : DS) (hd : D.down = false) : anR D = if (anB D 2).1.gen = 0 then (zSp, 0, 5, { D with rd := D.rd + 2 }) else ((anB D 2).1, (anB D 2).2, 0, { D with rd := D.rd + 2 }) := by
  unfold anR; rw [hd]; rfl
theorem anB_one (D : DS) (X : Sp) (hd : decG (rdB D 0) = (X, 0)) (hv : Vld X D.n) (h2 : X.gen % 2 = 0) (h1 : 1 ≤ X.gen) : anB D 1 = (X, 0) := by
  show (if (decG (rdB D 0)).2 = 0 ∧ Vld (decG (rdB D 0)).1 D.n ∧ (decG (rdB D 0)).1.gen % 2 = (0 : Nat) ∧ (anB D 0).1.gen < (decG (rdB D 0)).1.gen then ((decG (rdB D 0)).1, ((0 : Nat) : Int)) else anB D 0) = _
  rw [hd, if_pos ⟨rfl, hv, h2, by show (0 : Int) < X.gen; omega⟩]; rfl
theorem anB_one_no (D : DS) (hd : (decG (rdB D 0)).2 ≠ 0 ∨ (decG (rdB D 0)).1.gen % 2 = 1) : anB D 1 = (zSp, 0) := by
  show (if (decG (rdB D 0)).2 = 0 ∧ Vld (decG (rdB D 0)).1 D.n ∧ (decG (rdB D 0)).1.gen % 2 = (0 : Nat) ∧ (anB D 0).1.gen < (decG (rdB D 0)).1.gen then ((decG (rdB D 0)).1, ((0 : Nat) : Int)) else anB D 0) = _
  rw [if_neg (fun h => by rcases hd with k | k; exact k h.1; have := h.2.2.1; omega)]; rfl
theorem anB_two (D : DS) (Y : Sp) (hd : decG (rdB D 1) = (Y, 0)) (hv : Vld Y D.n) (h2 : Y.gen % 2 = 1) (h1 : (anB D 1).1.gen < Y.gen) : anB D 2 = (Y, 1) := by
  show (if (decG (rdB D 1)).2 = 0 ∧ Vld (decG (rdB D 1)).1 D.n ∧ (decG (rdB D 1)).1.gen % 2 = (1 : Nat) ∧ (anB D 1).1.gen < (decG (rdB D 1)).1.gen then ((decG (rdB D 1)).1, ((1 : Nat) : Int)) else anB D 1) = _
  rw [hd, if_pos ⟨rfl, hv, h2, h1⟩]; rfl
theorem anB_two_no (D : DS) (hd : (decG (rdB D 1)).2 ≠ 0 ∨ (decG (rdB D 1)).1.gen % 2 = 0 ∨ (decG (rdB D 1)).1.gen ≤ (anB D 1).1.gen) : anB D 2 = anB D 1 := by
  show (if (decG (rdB D 1)).2 = 0 ∧ Vld (decG (rdB D 1)).1 D.n ∧ (decG (rdB D 1)).1.gen % 2 = (1 : Nat) ∧ (anB D 1).1.gen < (decG (rdB D 1)).1.gen then ((decG (rdB D 1)).1, ((1 : Nat) : Int)) else anB D 1) = _
  rw [if_neg (fun h => by rcases hd with k | k | k; exact k h.1; have := h.2.2.1; omega; have := h.2.2.2; omega)]
end Go.Proofs.Ytggoaelbglhehaa
/- The laws' helper right: a superblock made valid on 64 blocks, of that generation. -/
set_option linter.unusedVariables false
set_option linter.unusedSimpArgs false
set_option maxRecDepth 100000
namespace Go.Proofs.Ytggoaelbglhehaa
open Go.RowKit SumMath
theorem i64_andm62 (j : Nat) (hj : j ≤ 62) (n : Int) : bits .and .i64 n ((2 ^ j - 1 : Nat) : Int) = n % ((2 ^ j : Nat) : Int) := by
  show IntKind.i64.wrap ((BitVec.ofInt 64 n &&& BitVec.ofInt 64 ((2 ^ j - 1 : Nat) : Int)).toNat : Nat) = _
  have hp : 2 ^ j ≤ 2 ^ 62 := Nat.pow_le_pow_right (by omega) hj
  have hp1 : 0 < 2 ^ j := Nat.pow_pos (by omega)
  have hd : (2 : Nat) ^ 64 = 2 ^ j * 2 ^ (64 - j) := by rw [← Nat.pow_add]; congr 1; omega
  have e : (BitVec.ofInt 64 ((2 ^ j - 1 : Nat) : Int)).toNat = 2 ^ j - 1 := by
    rw [BitVec.toNat_ofInt]; omega
  have h : (BitVec.ofInt 64 n &&& BitVec.ofInt 64 ((2 ^ j - 1 : Nat) : Int)).toNat = (n % ((2 ^ j : Nat) : Int)).toNat := by
    rw [BitVec.toNat_and, e, BitVec.toNat_ofInt, Nat.and_two_pow_sub_one_eq_mod]
    have h1 : ((n % ((2 ^ 64 : Nat) : Int)).toNat % 2 ^ j : Nat) = (n % ((2 ^ 64 : Nat) : Int) % ((2 ^ j : Nat) : Int)).toNat := by
      have h3 : 0 ≤ n % ((2 ^ 64 : Nat) : Int) := Int.emod_nonneg _ (by decide)
      obtain ⟨a, ha⟩ := Int.eq_ofNat_of_zero_le h3
      rw [ha]
      simp
      rfl
    rw [h1, Int.emod_emod_of_dvd]
    exact ⟨((2 ^ (64 - j) : Nat) : Int), by rw [hd]; simp⟩
  rw [h]
  have h4 : 0 ≤ n % ((2 ^ j : Nat) : Int) := Int.emod_nonneg _ (by omega)
  have h5 : n % ((2 ^ j : Nat) : Int) < ((2 ^ j : Nat) : Int) := Int.emod_lt_of_pos _ (by omega)
  rw [Int.toNat_of_nonneg h4]
  exact IntWalk.i64_in _ (by omega)
def rightS (s : Sp) (g : Int) : Sp := ⟨g, 1 + s.epoch % 576460752303423488, 64, 8 + s.log % 8, 1 + s.stamp % 576460752303423488, (s.stamp % 576460752303423488) % (8 + s.log % 8), if s.root % 2 = 1 then 2 + (8 + s.log % 8) + s.root % 32 else 0, if s.root % 2 = 1 then 1 + s.count % 576460752303423488 else 0, s.version % 576460752303423488⟩
theorem rightS_vld (s : Sp) (g : Int) (h : 1 ≤ g ∧ g ≤ 1152921500311879680) : Vld (rightS s g) 64 := by
  have h1 := Int.emod_nonneg s.log (show (8 : Int) ≠ 0 by omega)
  have h2 := Int.emod_lt_of_pos s.log (show (0 : Int) < 8 by omega)
  refine ⟨rfl, by omega, by omega, ⟨by show 8 ≤ 8 + s.log % 8; omega, by show 8 + s.log % 8 ≤ 512; omega⟩, by show 2 + (8 + s.log % 8) + 40 ≤ 64; omega, h, ⟨by show 1 ≤ 1 + s.epoch % 576460752303423488; omega, by show 1 + s.epoch % 576460752303423488 ≤ _; omega⟩, ⟨by show 1 ≤ 1 + s.stamp % 576460752303423488; omega, by show 1 + s.stamp % 576460752303423488 ≤ _; omega⟩, ⟨by show 0 ≤ s.version % 576460752303423488; omega, by show s.version % 576460752303423488 ≤ _; omega⟩, ?_, ?_⟩
  · show (s.stamp % 576460752303423488) % (8 + s.log % 8) = (1 + s.stamp % 576460752303423488 - 1) % (8 + s.log % 8)
    congr 1; omega
  · by_cases hr : s.root % 2 = 1
    · right
      show 2 + (8 + s.log % 8) ≤ (if s.root % 2 = 1 then 2 + (8 + s.log % 8) + s.root % 32 else 0) ∧ (if s.root % 2 = 1 then 2 + (8 + s.log % 8) + s.root % 32 else 0) ≤ 64 - 1 ∧ 1 ≤ (if s.root % 2 = 1 then 1 + s.count % 576460752303423488 else 0) ∧ (if s.root % 2 = 1 then 1 + s.count % 576460752303423488 else 0) ≤ 1152921500311879680
      rw [if_pos hr, if_pos hr]; omega
    · left
      show (if s.root % 2 = 1 then 2 + (8 + s.log % 8) + s.root % 32 else 0) = 0 ∧ (if s.root % 2 = 1 then 1 + s.count % 576460752303423488 else 0) = 0
      rw [if_neg hr, if_neg hr]; exact ⟨rfl, rfl⟩
set_option maxHeartbeats 1600000 in
theorem l11_right (s : Sp) (g : Int) (w : World) : Calls Try.prog 19 #[.agg (spC s), .int .i64 g] w fun e w' => e = .returned (.agg (spC (rightS s g))) ∧ Below w.heap.size w w' := by
  obtain ⟨sg, se, sb, sl, ss, sa, sr, sc, sv⟩ := s
  have a1 : bits .and .i64 sl 7 = sl % 8 := i64_andm62 3 (by omega) sl
  have a2 : bits .and .i64 se 576460752303423487 = se % 576460752303423488 := i64_andm62 59 (by omega) se
  have a3 : bits .and .i64 ss 576460752303423487 = ss % 576460752303423488 := i64_andm62 59 (by omega) ss
  have a4 : bits .and .i64 sv 576460752303423487 = sv % 576460752303423488 := i64_andm62 59 (by omega) sv
  have a5 : bits .and .i64 sr 1 = sr % 2 := i64_andm62 1 (by omega) sr
  have a6 : bits .and .i64 sr 31 = sr % 32 := i64_andm62 5 (by omega) sr
  have a7 : bits .and .i64 sc 576460752303423487 = sc % 576460752303423488 := i64_andm62 59 (by omega) sc
  have HRS := Lib.hid (show rightS ⟨sg, se, sb, sl, ss, sa, sr, sc, sv⟩ g = ⟨g, 1 + se % 576460752303423488, 64, 8 + sl % 8, 1 + ss % 576460752303423488, (ss % 576460752303423488) % (8 + sl % 8), if sr % 2 = 1 then 2 + (8 + sl % 8) + sr % 32 else 0, if sr % 2 = 1 then 1 + sc % 576460752303423488 else 0, sv % 576460752303423488⟩ from rfl)
  obtain ⟨xl, hxl⟩ : ∃ x, x = sl % 8 := ⟨_, rfl⟩
  obtain ⟨xe, hxe⟩ : ∃ x, x = se % 576460752303423488 := ⟨_, rfl⟩
  obtain ⟨xs, hxs⟩ : ∃ x, x = ss % 576460752303423488 := ⟨_, rfl⟩
  obtain ⟨xv, hxv⟩ : ∃ x, x = sv % 576460752303423488 := ⟨_, rfl⟩
  obtain ⟨x2, hx2⟩ : ∃ x, x = sr % 2 := ⟨_, rfl⟩
  obtain ⟨x32, hx32⟩ : ∃ x, x = sr % 32 := ⟨_, rfl⟩
  obtain ⟨xc, hxc⟩ : ∃ x, x = sc % 576460752303423488 := ⟨_, rfl⟩
  have b1 : (0 : Int) ≤ xl ∧ xl < 8 := by omega
  have b2 : (0 : Int) ≤ xe ∧ xe < 576460752303423488 := by omega
  have b3 : (0 : Int) ≤ xs ∧ xs < 576460752303423488 := by omega
  have b4 : (0 : Int) ≤ x32 ∧ x32 < 32 := by omega
  have b5 : (0 : Int) ≤ xc ∧ xc < 576460752303423488 := by omega
  rw [← hxl] at a1 HRS
  rw [← hxe] at a2 HRS
  rw [← hxs] at a3 HRS
  rw [← hxv] at a4 HRS
  rw [← hx2] at a5 HRS
  rw [← hx32] at a6 HRS
  rw [← hxc] at a7 HRS
  have t1 : (1 + xs - 1).tmod (8 + xl) = xs % (8 + xl) := by rw [show 1 + xs - 1 = xs by omega]; exact Int.tmod_eq_emod_of_nonneg b3.1
  have t1' : xs.tmod (8 + xl) = xs % (8 + xl) := Int.tmod_eq_emod_of_nonneg b3.1
  have t2 : ¬ (1152921500311879680 : Int) < 1 + xe := by omega
  have t3 : ¬ (8 + xl = 0) := by omega
  clear hxl hxe hxs hxv hx2 hx32 hxc
  unfold spC
  dsimp only
  by_cases hr : x2 = 1
  · have hrb : (x2 == 1) = true := by simp [hr]
    rw [if_pos hr, if_pos hr] at HRS
    go_enter Try.func19, Try.ntmps19
    go_wp2
    (try simp only [Exit.inBlock, Exit.then])
    have h9 := heap_alloc2_old (w.alloc (spO ⟨sg, se, sb, sl, ss, sa, sr, sc, sv⟩)) (spO ⟨g, 1 + xe, 64, 8 + xl, 1 + xs, xs % (8 + xl), 2 + (8 + xl) + x32, 1 + xc, xv⟩) (spO ⟨g, 1 + xe, 64, 8 + xl, 1 + xs, xs % (8 + xl), 2 + (8 + xl) + x32, 1 + xc, xv⟩)
    rw [World.size_alloc] at h9
    exact bodyPost_ret (results_cell_row rfl _ _ (w.heap.size + 1) 25 (spC ⟨g, 1 + xe, 64, 8 + xl, 1 + xs, xs % (8 + xl), 2 + (8 + xl) + x32, 1 + xc, xv⟩) (0, 0) _ rfl h9 Try.underlying25 rfl sz_sup) rfl ⟨by rw [HRS.out]; rfl, (((Below.refl _ w).alloc (Nat.le_refl _) _).alloc (by rw [World.size_alloc]; omega) _).alloc (by rw [World.size_alloc, World.size_alloc]; omega) _⟩
  · have hrb : (x2 == 1) = false := by simp [hr]
    rw [if_neg hr, if_neg hr] at HRS
    go_enter Try.func19, Try.ntmps19
    go_wp2
    (try simp only [Exit.inBlock, Exit.then])
    have h9 := heap_alloc2_old (w.alloc (spO ⟨sg, se, sb, sl, ss, sa, sr, sc, sv⟩)) (spO ⟨g, 1 + xe, 64, 8 + xl, 1 + xs, xs % (8 + xl), 0, 0, xv⟩) (spO ⟨g, 1 + xe, 64, 8 + xl, 1 + xs, xs % (8 + xl), 0, 0, xv⟩)
    rw [World.size_alloc] at h9
    exact bodyPost_ret (results_cell_row rfl _ _ (w.heap.size + 1) 25 (spC ⟨g, 1 + xe, 64, 8 + xl, 1 + xs, xs % (8 + xl), 0, 0, xv⟩) (0, 0) _ rfl h9 Try.underlying25 rfl sz_sup) rfl ⟨by rw [HRS.out]; rfl, (((Below.refl _ w).alloc (Nat.le_refl _) _).alloc (by rw [World.size_alloc]; omega) _).alloc (by rw [World.size_alloc, World.size_alloc]; omega) _⟩
end Go.Proofs.Ytggoaelbglhehaa
/- AnchorCounts, plain: two blocks laid down by hand; what counts of them. -/
set_option linter.unusedVariables false
set_option linter.unusedSimpArgs false
set_option maxRecDepth 100000
namespace Go.Proofs.Ytggoaelbglhehaa
open Go.RowKit SumMath
theorem blkM_splice_at (M X : List UInt8) (k : Nat) (h : k * 512 + 512 ≤ M.length) (hx : X.length = 512) : blkM (splice M (k * 512) X) k = X := by
  apply List.ext_getElem?
  intro i
  by_cases hi : i < 512
  · rw [blkM_get _ _ _ hi, splice_get _ _ _ _ (by omega), if_pos (by omega)]
    congr 1; omega
  · rw [List.getElem?_eq_none (by unfold blkM; rw [List.length_take]; omega), List.getElem?_eq_none (by omega)]
def D64 : DS := ⟨64, List.replicate (64 * 512) 0, [], 0, false, false, 0, 0, 0⟩
def D2 (i : Nat) (P Q : List UInt8) : DS := (edD (edD D64 (i : Int) 0 P).2 ((1 - i : Nat) : Int) 0 Q).2
theorem ed_at (D : DS) (i : Nat) (P : List UInt8) (hi : i < D.n) (hp : P.length = 512) : edD D (i : Int) 0 P = (0, { D with M := splice D.M (i * 512) P }) := by
  unfold edD
  rw [if_neg (by omega), if_neg (by omega)]
  rfl
theorem D2_eq (i : Nat) (P Q : List UInt8) (hi : i < 2) (hp : P.length = 512) (hq : Q.length = 512) :
    (edD D64 (i : Int) 0 P).1 = 0 ∧ (edD (edD D64 (i : Int) 0 P).2 ((1 - i : Nat) : Int) 0 Q).1 = 0 ∧ D2 i P Q = { D64 with M := splice (splice D64.M (i * 512) P) ((1 - i) * 512) Q } := by
  have h1 := ed_at D64 i P (by show i < 64; omega) hp
  unfold D2
  rw [h1]
  have h2 := ed_at { D64 with M := splice D64.M (i * 512) P } (1 - i) Q (by show 1 - i < 64; omega) hq
  dsimp only
  rw [h2]
  exact ⟨rfl, rfl, rfl⟩
theorem D2_rd (i : Nat) (P Q : List UInt8) (hi : i < 2) (hp : P.length = 512) (hq : Q.length = 512) : rdB (D2 i P Q) i = P ∧ rdB (D2 i P Q) (1 - i) = Q := by
  have hm : D64.M.length = 32768 := by show (List.replicate (64 * 512) (0 : UInt8)).length = _; rw [List.length_replicate]
  have hs : (splice D64.M (i * 512) P).length = 32768 := by rw [splice_len _ _ _ (by omega), hm]
  rw [(D2_eq i P Q hi hp hq).2.2]
  constructor
  · show blkM (splice (splice D64.M (i * 512) P) ((1 - i) * 512) Q) i = P
    rw [blkM_splice_out _ _ _ _ (by omega) (by omega)]
    exact blkM_splice_at _ _ _ (by omega) hp
  · show blkM (splice (splice D64.M (i * 512) P) ((1 - i) * 512) Q) (1 - i) = Q
    exact blkM_splice_at _ _ _ (by omega) hq
theorem vld_ok (X : Sp) (n : Int) (h : Vld X n) : X.ok := by
  have h1 := Int.emod_nonneg (X.stamp - 1) (show X.log ≠ 0 by have := h.log; omega)
  have h2 := Int.emod_lt_of_pos (X.stamp - 1) (show (0 : Int) < X.log by have := h.log; omega)
  have a := h.blocks; have b := h.lo; have c := h.hi; have d := h.log; have e := h.gen; have f := h.epoch; have g := h.stamp; have i := h.version; have j := h.at_; have k := h.root
  unfold Sp.ok
  omega
def cP (X : Sp) (b : Bool) (a : Nat) : List UInt8 := if b = true then flipL (encL X) a else encL X
theorem cP_len (X : Sp) (b : Bool) (a : Nat) : (cP X b a).length = 512 := by
  unfold cP; split
  · unfold flipL; rw [List.length_set]; exact encL_len X
  · exact encL_len X
theorem cP_dec (X : Sp) (hx : Vld X 64) (b : Bool) (a : Nat) (ha : a < 512) : if b = true then (decG (cP X b a)).2 ≠ 0 else decG (cP X b a) = (X, 0) := by
  cases b
  · exact decG_enc X (by have := hx.blocks; rw [this]; exact hx)
  · exact flip_told X a ha
def cWant (X Y : Sp) (sp : Int) : Sp := if sp = 1 ∨ (sp ≠ 0 ∧ Y.gen < X.gen) then X else Y
theorem counts_straight (X Y : Sp) (hx : Vld X 64) (hy : Vld Y 64) (h0 : X.gen % 2 = 0) (h1 : Y.gen % 2 = 1) (sp : Int) (a : Nat) (ha : a < 512) :
    (anR (D2 0 (cP X (decide (sp = 0)) a) (cP Y (decide (sp = 1)) a))).1 = cWant X Y sp ∧ (anR (D2 0 (cP X (decide (sp = 0)) a) (cP Y (decide (sp = 1)) a))).2.1 = (cWant X Y sp).gen % 2 ∧ (anR (D2 0 (cP X (decide (sp = 0)) a) (cP Y (decide (sp = 1)) a))).2.2.1 = 0 := by
  obtain ⟨r1, r2⟩ := D2_rd 0 (cP X (decide (sp = 0)) a) (cP Y (decide (sp = 1)) a) (by omega) (cP_len _ _ _) (cP_len _ _ _)
  obtain ⟨_, _, e⟩ := D2_eq 0 (cP X (decide (sp = 0)) a) (cP Y (decide (sp = 1)) a) (by omega) (cP_len _ _ _) (cP_len _ _ _)
  have c1 := cP_dec X hx (decide (sp = 0)) a ha
  have c2 := cP_dec Y hy (decide (sp = 1)) a ha
  rw [← r1] at c1
  rw [← r2] at c2
  obtain ⟨D, hD⟩ : ∃ D, D = D2 0 (cP X (decide (sp = 0)) a) (cP Y (decide (sp = 1)) a) := ⟨_, rfl⟩
  rw [← hD] at c1 c2 e ⊢
  have hn : D.n = 64 := by rw [e]; rfl
  have hd : D.down = false := by rw [e]; rfl
  have hX := hx.gen
  have hY := hy.gen
  clear e r1 r2 hD
  rw [anR_two D hd]
  have key : anB D 2 = (cWant X Y sp, (cWant X Y sp).gen % 2) := by
    by_cases s0 : sp = 0
    · rw [if_pos (by simp [s0])] at c1
      rw [if_neg (by simp [s0])] at c2
      rw [anB_two D Y c2 (by rw [hn]; exact hy) h1 (by rw [anB_one_no D (.inl c1)]; show (0 : Int) < _; omega)]
      unfold cWant
      rw [if_neg (by omega), h1]
    · rw [if_neg (by simp [s0])] at c1
      have b1 := anB_one D X c1 (by rw [hn]; exact hx) h0 (by omega)
      by_cases s1 : sp = 1
      · rw [if_pos (by simp [s1])] at c2
        rw [anB_two_no D (.inl c2), b1]
        unfold cWant
        rw [if_pos (by omega), h0]
      · rw [if_neg (by simp [s1])] at c2
        by_cases hg : Y.gen < X.gen
        · rw [anB_two_no D (.inr (.inr (by rw [c2, b1]; show Y.gen ≤ X.gen; omega))), b1]
          unfold cWant
          rw [if_pos (by omega), h0]
        · rw [anB_two D Y c2 (by rw [hn]; exact hy) h1 (by rw [b1]; show X.gen < Y.gen; omega)]
          unfold cWant
          rw [if_neg (by omega), h1]
  have hw : 1 ≤ (cWant X Y sp).gen := by unfold cWant; split <;> omega
  rw [key, if_neg (by show ¬ (cWant X Y sp).gen = 0; omega)]
  exact ⟨rfl, rfl, rfl⟩
theorem counts_swap (X Y : Sp) (hx : Vld X 64) (hy : Vld Y 64) (h0 : X.gen % 2 = 0) (h1 : Y.gen % 2 = 1) (sp : Int) (a : Nat) (ha : a < 512) :
    (anR (D2 1 (cP X (decide (sp = 0)) a) (cP Y (decide (sp = 1)) a))).1 = zSp ∧ (anR (D2 1 (cP X (decide (sp = 0)) a) (cP Y (decide (sp = 1)) a))).2.1 = 0 ∧ (anR (D2 1 (cP X (decide (sp = 0)) a) (cP Y (decide (sp = 1)) a))).2.2.1 = 5 := by
  obtain ⟨r1, r2⟩ := D2_rd 1 (cP X (decide (sp = 0)) a) (cP Y (decide (sp = 1)) a) (by omega) (cP_len _ _ _) (cP_len _ _ _)
  obtain ⟨_, _, e⟩ := D2_eq 1 (cP X (decide (sp = 0)) a) (cP Y (decide (sp = 1)) a) (by omega) (cP_len _ _ _) (cP_len _ _ _)
  have c1 := cP_dec X hx (decide (sp = 0)) a ha
  have c2 := cP_dec Y hy (decide (sp = 1)) a ha
  rw [← r1] at c1
  rw [← r2] at c2
  obtain ⟨D, hD⟩ : ∃ D, D = D2 1 (cP X (decide (sp = 0)) a) (cP Y (decide (sp = 1)) a) := ⟨_, rfl⟩
  rw [← hD] at c1 c2 e ⊢
  have hd : D.down = false := by rw [e]; rfl
  clear e r1 r2 hD
  rw [anR_two D hd]
  have k1 : anB D 1 = (zSp, 0) := anB_one_no D (by
    by_cases s1 : sp = 1
    · rw [if_pos (by simp [s1])] at c2; exact .inl c2
    · rw [if_neg (by simp [s1])] at c2
      have c3 : decG (rdB D 0) = (Y, 0) := c2
      exact .inr (by rw [c3]; exact h1))
  have k2 : anB D 2 = anB D 1 := anB_two_no D (by
    by_cases s0 : sp = 0
    · rw [if_pos (by simp [s0])] at c1; exact .inl c1
    · rw [if_neg (by simp [s0])] at c1
      exact .inr (.inl (by rw [c1]; exact h0)))
  rw [k2, k1, if_pos (show zSp.gen = 0 from rfl)]
  exact ⟨rfl, rfl, rfl⟩
end Go.Proofs.Ytggoaelbglhehaa
