/- The walk of the laws' helper turned: bits of a string are turned over. -/
import Derived.Test.YtbcoplhfijgcfaaSumL1
import Derived.RegionTactic
import Derived.BigRegion
set_option linter.unusedVariables false
set_option linter.unusedSimpArgs false
namespace Go.Proofs.Ytbcoplhfijgcfaa
open Go.RowKit SumMath
/-- bit k of the string is turned over -/
def flip1 (l : List UInt8) (k : Nat) : List UInt8 := l.set (k / 8) (l.getD (k / 8) 0 ^^^ UInt8.ofNat (2 ^ (k % 8)))
/-- the bits of mask, from bit at_ on, as far as they lie in the string: the first i of them -/
def flips (l : List UInt8) (at_ : Nat) (mask : BitVec 32) : Nat → List UInt8
  | 0 => l
  | i + 1 => if mask.getLsbD i = true ∧ at_ + i < 8 * l.length then flip1 (flips l at_ mask i) (at_ + i) else flips l at_ mask i
theorem flip1_length (l : List UInt8) (k : Nat) : (flip1 l k).length = l.length := by simp [flip1]
theorem flips_length (l : List UInt8) (at_ : Nat) (mask : BitVec 32) : ∀ i, (flips l at_ mask i).length = l.length
  | 0 => rfl
  | i + 1 => by
    rw [flips]
    split
    · rw [flip1_length, flips_length]
    · exact flips_length l at_ mask i
theorem bit_test (mask : BitVec 32) (j : Nat) : (bits .and .u32 ((mask.toNat : Int) / 2 ^ j) 1 == 1) = mask.getLsbD j := by
  have h1 : (mask.toNat : Int) / 2 ^ j = ((mask.toNat / 2 ^ j : Nat) : Int) := by
    rw [show (2 : Int) ^ j = ((2 ^ j : Nat) : Int) from (Int.natCast_pow 2 j).symm, Int.natCast_ediv]
  have h2 : mask.toNat / 2 ^ j ≤ mask.toNat := Nat.div_le_self _ _
  rw [h1, show (1 : Int) = ((1 : Nat) : Int) from rfl, u32_and_nat _ _ (Nat.lt_of_le_of_lt h2 mask.isLt) (by decide), nat_mask1, BitVec.getLsbD, Nat.testBit_eq_decide_div_mod_eq]
  rcases Nat.mod_two_eq_zero_or_one (mask.toNat / 2 ^ j) with h | h <;> rw [h] <;> simp
theorem flip_val (x : UInt8) (k : Nat) : bits .xor .u8 (x.toNat : Int) (2 ^ (k % 8) % 256) = ((x ^^^ UInt8.ofNat (2 ^ (k % 8))).toNat : Int) := by
  have h1 : 2 ^ (k % 8) < 256 := by
    have : k % 8 < 8 := Nat.mod_lt _ (by decide)
    calc 2 ^ (k % 8) ≤ 2 ^ 7 := Nat.pow_le_pow_right (by decide) (by omega)
      _ < 256 := by decide
  have h2 : (2 : Int) ^ (k % 8) % 256 = ((UInt8.ofNat (2 ^ (k % 8))).toNat : Int) := by
    rw [show (2 : Int) ^ (k % 8) = ((2 ^ (k % 8) : Nat) : Int) from (Int.natCast_pow 2 _).symm, UInt8.toNat_ofNat']
    omega
  rw [h2, xor_u8]
theorem law_turned (A : Option Addr) (n c : Nat) (l : List UInt8) (at_ : Nat) (mask : BitVec 32) (w : World) (hr : Rd w A n c l) (hat : at_ ≤ 1125899906842624) :
    Calls Try.prog 22 #[.slice A n c, .int .i64 at_, .int .u32 mask.toNat] w fun e w' => ∃ v, e = .returned v ∧ Own w' w.heap.size v n (flips l at_ mask 32) ∧ Below w.heap.size w w' := by
  have hm := hr.max
  have HR := Lib.hid hr
  have HL := Lib.hid hr.len
  have hmk := mask.isLt
  clear hr
  go_enter Try.func22, Try.ntmps22
  go_wp2_with fail
  refine (law_dup _ _ _ l _ HR.out).mono ?_
  rintro e w1 ⟨v, rfl, hO, hb1⟩
  have HO := Lib.hid hO
  have hv : ∃ A1 c1, v = .slice A1 n c1 := by obtain ⟨A1, c1, h, _⟩ := hO.rd hm; exact ⟨A1, c1, h⟩
  obtain ⟨A1, c1, rfl⟩ := hv
  clear hO
  go_wp2_with fail
  go_loopw [8, 9] (fun i _ wr => ∃ j : Nat, j ≤ 32 ∧ i = .int .i64 j ∧ Own wr w.heap.size (.slice A1 n c1) n (flips l at_ mask j) ∧ Below w.heap.size w wr) (fun i _ _ => 32 - (intOf i).toNat)
  case atStart => exact ⟨0, by omega, rfl, HO.out, hb1⟩
  case round =>
    obtain ⟨j, hj, rfl, hOj, hB⟩ := hrel
    have HOj := Lib.hid hOj
    clear hOj
    by_cases hj32 : j < 32
    · by_cases hk : at_ + j < 8 * n
      · obtain ⟨g, cc, he, hg1, hg2⟩ := HOj.out.form (by omega)
        injection he with he1 he2 he3
        subst he1 he3
        have hcell := HOj.out.cell ((at_ + j) / 8) (by omega)
        have hfree := HOj.out.free ((at_ + j) / 8)
        cases hbit : mask.getLsbD j
        · have HBit := Lib.hid hbit
          have hbt : (bits .and .u32 ((mask.toNat : Int) / 2 ^ j) 1 == 1) = false := by rw [bit_test, hbit]
          clear hbit
          have HS := Lib.hid (show flips l at_ mask (j + 1) = flips l at_ mask j by rw [flips, if_neg (by rw [HBit.out]; simp)])
          go_wp2
          exact ⟨⟨j + 1, by omega, by go_num, by rw [HS.out]; exact HOj.out, hB⟩, by simp [intOf]; omega⟩
        · have HBit := Lib.hid hbit
          have hbt : (bits .and .u32 ((mask.toNat : Int) / 2 ^ j) 1 == 1) = true := by rw [bit_test, hbit]
          clear hbit
          have h8 := ((flips l at_ mask j).getD ((at_ + j) / 8) 0).toNat_lt
          have HS := Lib.hid (show flips l at_ mask (j + 1) = flip1 (flips l at_ mask j) (at_ + j) by rw [flips, if_pos ⟨HBit.out, by rw [HL.out]; exact hk⟩])
          have HV := Lib.hid (flip_val ((flips l at_ mask j).getD ((at_ + j) / 8) 0) (at_ + j))
          have HW := Lib.hid (HOj.out.store ((at_ + j) / 8) ((flips l at_ mask j).getD ((at_ + j) / 8) 0 ^^^ UInt8.ofNat (2 ^ ((at_ + j) % 8))))
          obtain ⟨x, hx⟩ : ∃ x, x = (flips l at_ mask j).getD ((at_ + j) / 8) 0 := ⟨_, rfl⟩
          rw [← hx] at hcell h8 HV HW
          have HX := Lib.hid hx
          clear hx
          go_wp2_with fail
          go_region
          go_wp2
          refine ⟨⟨j + 1, by omega, by go_num, ?_, ?_⟩, by simp [intOf]; omega⟩
          · rw [HS.out, flip1, ← HX.out]
            have := HW.out
            rw [← HV.out] at this
            exact this
          · exact (hB.setCell (by exact hg1) _).drew
      · have HS := Lib.hid (show flips l at_ mask (j + 1) = flips l at_ mask j by rw [flips, if_neg (by rw [HL.out]; omega)])
        cases hbit : mask.getLsbD j
        all_goals
          have hbt := bit_test mask j
          rw [hbit] at hbt
          clear hbit
          go_wp2
          exact ⟨⟨j + 1, by omega, by go_num, by rw [HS.out]; exact HOj.out, hB⟩, by simp [intOf]; omega⟩
    · obtain rfl : j = 32 := by omega
      go_wp2
      go_ret
      exact ⟨_, rfl, HOj.out, hB⟩
end Go.Proofs.Ytbcoplhfijgcfaa
