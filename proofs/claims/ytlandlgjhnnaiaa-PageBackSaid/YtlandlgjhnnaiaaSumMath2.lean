/- The plain mathematics of bursts: what differs within 32 bits has another sum. -/
import Derived.Test.YtlandlgjhnnaiaaSumL3
set_option linter.unusedVariables false
set_option linter.unusedSimpArgs false
namespace Go.Proofs.Ytlandlgjhnnaiaa
open SumMath
theorem Tn_pow2 (r : Nat) (h : r < 32) : Tn r (BitVec.twoPow 32 r) = 1#32 := by
  have : ∀ r, r < 32 → Tn r (BitVec.twoPow 32 r) = 1#32 := by decide
  exact this r h
theorem byte_pow2 (r : Nat) (h : r < 8) : BitVec.ofNat 32 (UInt8.ofNat (2 ^ r)).toNat = BitVec.twoPow 32 r := by
  have : ∀ r, r < 8 → BitVec.ofNat 32 (UInt8.ofNat (2 ^ r)).toNat = BitVec.twoPow 32 r := by decide
  exact this r h
theorem xor_byte32 (a b : UInt8) : BitVec.ofNat 32 (a ^^^ b).toNat = BitVec.ofNat 32 a.toNat ^^^ BitVec.ofNat 32 b.toNat := by
  rw [UInt8.toNat_xor]
  apply BitVec.eq_of_getLsbD_eq; intro i hi; simp [BitVec.getLsbD_ofNat, Nat.testBit_xor]
/-- one bit turned over -/
theorem ov_flip1 (x : BitVec 32) (l : List UInt8) (k : Nat) (h : k < 8 * l.length) : ov x (flip1 l k) = ov x l ^^^ Tn (8 * l.length - k) 1#32 := by
  have hk : k / 8 < l.length := by omega
  have e1 : l = l.take (k / 8) ++ [l.getD (k / 8) 0] ++ l.drop (k / 8 + 1) := by
    rw [← take_snoc l (k / 8) 0 hk, List.take_append_drop]
  have e2 : flip1 l k = l.take (k / 8) ++ [l.getD (k / 8) 0 ^^^ UInt8.ofNat (2 ^ (k % 8))] ++ l.drop (k / 8 + 1) := by
    unfold flip1
    rw [List.set_eq_take_append_cons_drop, if_pos hk]
    simp
  have hq : (l.drop (k / 8 + 1)).length = l.length - (k / 8 + 1) := by simp
  conv => rhs; rw [e1]
  rw [e2, ov_append, ov_snoc, ov_append, ov_snoc]
  generalize ov x (l.take (k / 8)) = y
  generalize l.getD (k / 8) 0 = c
  have hb : by1 y (c ^^^ UInt8.ofNat (2 ^ (k % 8))) = by1 y c ^^^ Tn 8 (BitVec.twoPow 32 (k % 8)) := by
    unfold by1
    rw [xor_byte32, byte_pow2 _ (Nat.mod_lt _ (by decide)), ← Tn_xor]
    congr 1; ac_rfl
  rw [hb, ov_lin, hq, ← Tn_add]
  congr 1
  have hlen : (l.take (k / 8) ++ [c] ++ l.drop (k / 8 + 1)).length = l.length := by simp; omega
  rw [hlen]
  have h2 := Tn_pow2 (k % 8) (by have := Nat.mod_lt k (show 0 < 8 by decide); omega)
  rw [show 8 * (l.length - (k / 8 + 1)) + 8 = (8 * l.length - k) + k % 8 by omega, Tn_add, h2]
/-- the part of the mask that lies in the string -/
def part (mask : BitVec 32) (N : Nat) : Nat → BitVec 32
  | 0 => 0#32
  | i + 1 => if mask.getLsbD i = true ∧ i < N then part mask N i ^^^ BitVec.twoPow 32 i else part mask N i
theorem part_bit (mask : BitVec 32) (N : Nat) : ∀ i, i ≤ 32 → ∀ j, j < 32 → (part mask N i).getLsbD j = (decide (j < i) && mask.getLsbD j && decide (j < N))
  | 0, _, j, hj => by simp [part]
  | i + 1, hi, j, hj => by
    have ih := part_bit mask N i (by omega) j hj
    rw [part]
    by_cases hc : mask.getLsbD i = true ∧ i < N
    · rw [if_pos hc, BitVec.getLsbD_xor, ih, BitVec.getLsbD_twoPow]
      by_cases e : i = j
      · subst e
        simp [hc.1, hc.2, hj]
      · have h3 : (j < i + 1) ↔ (j < i) := by omega
        simp [e, h3]
    · rw [if_neg hc, ih]
      by_cases e : i = j
      · subst e
        by_cases h1 : mask.getLsbD i = true
        · have h2 : ¬ i < N := fun h => hc ⟨h1, h⟩
          simp [h2]
        · simp [h1]
      · have h3 : (j < i + 1) ↔ (j < i) := by omega
        simp [h3]
theorem ov_flips (x : BitVec 32) (l : List UInt8) (at_ : Nat) (mask : BitVec 32) : ∀ i, i ≤ 32 → ov x (flips l at_ mask i) = ov x l ^^^ Tn (8 * l.length - at_) (part mask (8 * l.length - at_) i)
  | 0, _ => by rw [flips, part, Tn_zero, BitVec.xor_zero]
  | i + 1, hi => by
    have ih := ov_flips x l at_ mask i (by omega)
    rw [flips, part]
    by_cases hc : mask.getLsbD i = true ∧ at_ + i < 8 * l.length
    · rw [if_pos hc, if_pos ⟨hc.1, by omega⟩, ov_flip1 _ _ _ (by rw [flips_length]; exact hc.2), flips_length, ih, Tn_xor, BitVec.xor_assoc]
      congr 2
      have h2 := Tn_pow2 i (by omega)
      rw [← h2, ← Tn_add]
      congr 1
      omega
    · rw [if_neg hc, if_neg (fun h => hc ⟨h.1, by omega⟩), ih]
theorem flips_id (l : List UInt8) (at_ : Nat) (mask : BitVec 32) (h : part mask (8 * l.length - at_) 32 = 0#32) : ∀ i, i ≤ 32 → flips l at_ mask i = l
  | 0, _ => rfl
  | i + 1, hi => by
    rw [flips, if_neg, flips_id l at_ mask h i (by omega)]
    intro hc
    have := part_bit mask (8 * l.length - at_) 32 (by omega) i (by omega)
    rw [h, hc.1] at this
    simp at this
    omega
/-- a burst is told by the register -/
theorem burst_ov (x : BitVec 32) (l : List UInt8) (at_ : Nat) (mask : BitVec 32) (h : ov x (flips l at_ mask 32) = ov x l) : flips l at_ mask 32 = l := by
  rw [ov_flips x l at_ mask 32 (by omega)] at h
  have h2 : Tn (8 * l.length - at_) (part mask (8 * l.length - at_) 32) = 0#32 := by
    have := congrArg (fun v => ov x l ^^^ v) h
    simp only [← BitVec.xor_assoc, BitVec.xor_self, BitVec.zero_xor] at this
    exact this
  exact flips_id l at_ mask (Tn_inj0 _ _ h2) 32 (by omega)
theorem burst_crc (l : List UInt8) (at_ : Nat) (mask : BitVec 32) (h : crc 0#32 (flips l at_ mask 32) = crc 0#32 l) : flips l at_ mask 32 = l := by
  refine burst_ov (~~~0#32) l at_ mask ?_
  unfold crc at h
  have := congrArg (fun v : BitVec 32 => ~~~v) h
  simpa using this
/-! ### a string with its sum behind it -/
theorem T8_shift (y : BitVec 32) (h : ∀ i, i < 8 → y.getLsbD i = false) : Tn 8 y = y >>> 8 := by
  rw [show (8 : Nat) = 4 + 4 from rfl, Tn_add, T4_shift y (fun i hi => h i (by omega)), T4_shift _ (fun i hi => by rw [BitVec.getLsbD_ushiftRight]; exact h _ (by omega)), ← BitVec.shiftRight_add]
theorem low_byte (s : BitVec 32) : BitVec.ofNat 32 (b8 s 0).toNat = s &&& 255#32 := by
  apply BitVec.eq_of_toNat_eq
  rw [b8_nat, Nat.pow_zero, Nat.div_one, BitVec.toNat_and, BitVec.toNat_ofNat, BitVec.toNat_ofNat, show 255 % 2 ^ 32 = 255 from rfl, nat_mask8]
  omega
theorem step8 (u s : BitVec 32) : Tn 8 (u ^^^ s) = by1 u (b8 s 0) ^^^ (s >>> 8) := by
  have hx : s = (s &&& 255#32) ^^^ (s &&& ~~~255#32) := by
    apply BitVec.eq_of_getLsbD_eq
    intro i hi
    rw [BitVec.getLsbD_xor, BitVec.getLsbD_and, BitVec.getLsbD_and, BitVec.getLsbD_not]
    cases s.getLsbD i <;> cases (255#32).getLsbD i <;> simp [hi]
  have hbits : ∀ i, (255#32).getLsbD i = decide (i < 8) := by
    intro i
    by_cases hi : i < 32
    · have : ∀ i, i < 32 → (255#32).getLsbD i = decide (i < 8) := by decide
      exact this i hi
    · rw [BitVec.getLsbD_of_ge _ _ (by omega)]; simp; omega
  have hz : ∀ i, i < 8 → (s &&& ~~~255#32).getLsbD i = false := by
    intro i hi
    rw [BitVec.getLsbD_and, BitVec.getLsbD_not, hbits]
    simp [hi]
  have hs : (s &&& ~~~255#32) >>> 8 = s >>> 8 := by
    apply BitVec.eq_of_getLsbD_eq
    intro i hi
    rw [BitVec.getLsbD_ushiftRight, BitVec.getLsbD_ushiftRight, BitVec.getLsbD_and, BitVec.getLsbD_not, hbits]
    by_cases h : 8 + i < 32
    · simp [h]
    · simp [h, BitVec.getLsbD_of_ge s (8 + i) (by omega)]
  conv => lhs; rw [hx, ← BitVec.xor_assoc, Tn_xor, T8_shift _ hz, hs]
  rw [by1, low_byte]
theorem b8_shift (s : BitVec 32) (i : Nat) : b8 (s >>> 8) i = b8 s (i + 1) := by
  apply u8_ext'
  rw [b8_nat, b8_nat, BitVec.toNat_ushiftRight, Nat.shiftRight_eq_div_pow, Nat.div_div_eq_div_mul, show 2 ^ 8 * 256 ^ i = 256 ^ (i + 1) by rw [Nat.mul_comm]; exact (Nat.pow_succ ..).symm]
where u8_ext' {a b : UInt8} (h : a.toNat = b.toNat) : a = b := UInt8.toNat_inj.1 h
theorem ov_le4 (u s : BitVec 32) : ov u (le4 s) = Tn 32 (u ^^^ s) := by
  have h1 := step8 u s
  have h2 := step8 (by1 u (b8 s 0)) (s >>> 8)
  have h3 := step8 (by1 (by1 u (b8 s 0)) (b8 s 1)) (s >>> 16)
  have h4 := step8 (by1 (by1 (by1 u (b8 s 0)) (b8 s 1)) (b8 s 2)) (s >>> 24)
  rw [b8_shift, ← BitVec.shiftRight_add] at h2
  rw [show s >>> 16 = (s >>> 8) >>> 8 by rw [← BitVec.shiftRight_add], b8_shift, b8_shift, ← BitVec.shiftRight_add, ← BitVec.shiftRight_add] at h3
  rw [show s >>> 24 = ((s >>> 8) >>> 8) >>> 8 by rw [← BitVec.shiftRight_add, ← BitVec.shiftRight_add], b8_shift, b8_shift, b8_shift, ← BitVec.shiftRight_add, ← BitVec.shiftRight_add, ← BitVec.shiftRight_add] at h4
  have h5 : s >>> (8 + 8 + 8 + 8) = 0#32 := by
    apply BitVec.eq_of_getLsbD_eq
    intro i hi
    rw [BitVec.getLsbD_ushiftRight, BitVec.getLsbD_of_ge _ _ (by omega)]; simp
  have e2 : Tn 8 (by1 u (b8 s 0) ^^^ s >>> 8) = by1 (by1 u (b8 s 0)) (b8 s 1) ^^^ s >>> 16 := h2
  have e3 : Tn 8 (by1 (by1 u (b8 s 0)) (b8 s 1) ^^^ s >>> 16) = by1 (by1 (by1 u (b8 s 0)) (b8 s 1)) (b8 s 2) ^^^ s >>> 24 := h3
  have e4 : Tn 8 (by1 (by1 (by1 u (b8 s 0)) (b8 s 1)) (b8 s 2) ^^^ s >>> 24) = by1 (by1 (by1 (by1 u (b8 s 0)) (b8 s 1)) (b8 s 2)) (b8 s 3) ^^^ s >>> 32 := h4
  have e5 : s >>> 32 = 0#32 := h5
  have h0 : Tn 32 (u ^^^ s) = Tn 8 (Tn 8 (Tn 8 (Tn 8 (u ^^^ s)))) := by rw [← Tn_add, ← Tn_add, ← Tn_add]
  rw [h0, h1, e2, e3, e4, e5, BitVec.xor_zero]
  rfl
theorem residue (b : List UInt8) : ov (~~~0#32) (b ++ le4 (crc 0#32 b)) = Tn 32 (BitVec.allOnes 32) := by
  rw [ov_append, ov_le4, crc]
  congr 1
  generalize ov (~~~0#32) b = u
  rw [← BitVec.xor_allOnes, ← BitVec.xor_assoc, BitVec.xor_self, BitVec.zero_xor]
/-- a sealed string in which a burst was turned over is none -/
theorem burst_seal (b : List UInt8) (at_ : Nat) (mask : BitVec 32) (hne : flips (b ++ le4 (crc 0#32 b)) at_ mask 32 ≠ b ++ le4 (crc 0#32 b)) :
    (flips (b ++ le4 (crc 0#32 b)) at_ mask 32).drop b.length ≠ le4 (crc 0#32 ((flips (b ++ le4 (crc 0#32 b)) at_ mask 32).take b.length)) := by
  intro he
  apply hne
  apply burst_ov (~~~0#32)
  rw [residue]
  generalize hc : flips (b ++ le4 (crc 0#32 b)) at_ mask 32 = c at *
  rw [← List.take_append_drop b.length c, he, residue]
end Go.Proofs.Ytlandlgjhnnaiaa
