/- The walk of DevSizes. -/
import Derived.Test.YtjbffahmjhbpjaaDv2
set_option linter.unusedVariables false
set_option linter.unusedSimpArgs false
namespace Go.Proofs.Ytjbffahmjhbpjaa
open Go.RowKit
theorem i64_and22 (n : Int) : bits .and .i64 n 4194303 = n % 4194304 := by
  show IntKind.i64.wrap ((BitVec.ofInt 64 n &&& BitVec.ofInt 64 4194303).toNat : Nat) = n % 4194304
  have h : (BitVec.ofInt 64 n &&& BitVec.ofInt 64 4194303).toNat = (n % 4194304).toNat := by
    have e : BitVec.ofInt 64 4194303 = BitVec.ofNat 64 (2 ^ 22 - 1) := by decide
    rw [e, BitVec.toNat_and, BitVec.toNat_ofInt, BitVec.toNat_ofNat, Nat.mod_eq_of_lt (show 2 ^ 22 - 1 < 2 ^ 64 by decide), Nat.and_two_pow_sub_one_eq_mod]
    omega
  rw [h, show (((n % 4194304).toNat : Nat) : Int) = n % 4194304 by omega]
  exact IntWalk.i64_in (n % 4194304) (by omega)
set_option maxRecDepth 100000 in
set_option maxHeartbeats 4000000 in
theorem walk_DevSizes (x : Int) (w : World) (hx : -9223372036854775808 ≤ x ∧ x < 9223372036854775808) :
    Calls Try.prog 3 #[.int .i64 x] w fun e w' => e = .returned (.bool true) ∧ Below w.heap.size w w' := by
  go_enter Try.func3, Try.ntmps3
  go_wp2_with fail
  go_loopw [4, 5, 6, 12] (fun _ _ _ k wr => ∃ j : Nat, j ≤ 8 ∧ k = .int .i64 j ∧ Below w.heap.size w wr) (fun _ _ _ k _ => 8 - (intOf k).toNat)
  case atStart => exact ⟨0, by omega, rfl, Below.refl _ _⟩
  case round =>
    obtain ⟨j, hj, rfl, hB⟩ := hrel
    have HB := Lib.hid hB
    clear hB
    by_cases h8 : j < 8
    · have hsp : ∃ v : Int, (v = x ∨ (v = 63 ∨ v = 64 ∨ v = 65 ∨ v = 4095 ∨ v = 4096 ∨ v = 4097 ∨ v = 0)) ∧ ∀ W : World, (Instr.index 22 (.agg #[Value.int .i64 63, .int .i64 64, .int .i64 65, .int .i64 4095, .int .i64 4096, .int .i64 4097, .int .i64 0, .int .i64 x]) (.int .i64 (j : Int))).run Try.prog W = .ok (.int .i64 v) W := by
        rcases (show j = 0 ∨ j = 1 ∨ j = 2 ∨ j = 3 ∨ j = 4 ∨ j = 5 ∨ j = 6 ∨ j = 7 by omega) with rfl | rfl | rfl | rfl | rfl | rfl | rfl | rfl
        · exact ⟨63, by omega, fun W => by simp [Instr.index, run_underlying Try.underlying22, asIntOf, go_sem]⟩
        · exact ⟨64, by omega, fun W => by simp [Instr.index, run_underlying Try.underlying22, asIntOf, go_sem]⟩
        · exact ⟨65, by omega, fun W => by simp [Instr.index, run_underlying Try.underlying22, asIntOf, go_sem]⟩
        · exact ⟨4095, by omega, fun W => by simp [Instr.index, run_underlying Try.underlying22, asIntOf, go_sem]⟩
        · exact ⟨4096, by omega, fun W => by simp [Instr.index, run_underlying Try.underlying22, asIntOf, go_sem]⟩
        · exact ⟨4097, by omega, fun W => by simp [Instr.index, run_underlying Try.underlying22, asIntOf, go_sem]⟩
        · exact ⟨0, by omega, fun W => by simp [Instr.index, run_underlying Try.underlying22, asIntOf, go_sem]⟩
        · exact ⟨x, by omega, fun W => by simp [Instr.index, run_underlying Try.underlying22, asIntOf, go_sem]⟩
      obtain ⟨v, hv, hidx⟩ := hsp
      have hvb : -9223372036854775808 ≤ v ∧ v < 9223372036854775808 := by omega
      clear hv
      by_cases hv : v < 64 ∨ 4096 < v
      · go_wp2_with fail
        refine (dv_New_bad v hv wr).mono ?_
        rintro e w1 ⟨rfl, rfl⟩
        rcases hv with hv1 | hv1
        · go_wp2
          go_roundw
          case rel => exact ⟨j + 1, by omega, by go_num, HB.out⟩
          case measure => simp [intOf]; omega
        · have hv2 : ¬ v ≤ 4096 := by omega
          go_wp2
          go_roundw
          case rel => exact ⟨j + 1, by omega, by go_num, HB.out⟩
          case measure => simp [intOf]; omega
      · obtain ⟨m, rfl⟩ := Int.eq_ofNat_of_zero_le (show 0 ≤ v by omega)
        go_wp2_with fail
        refine (dv_New_ok m (by omega) (by omega) wr).mono ?_
        rintro e w1 ⟨rfl, hD, hB1⟩
        have HD := Lib.hid hD
        have HB1 := Lib.hid (HB.out.trans (hB1.mono HB.out.size))
        clear hD hB1
        have hv1 : (64 : Int) ≤ (m : Int) := by omega
        have hv2 : (m : Int) ≤ 4096 := by omega
        go_wp2_with fail
        refine (dv_Blocks _ _ _ _ _ _ _ _ _ _ _ _ HD.out).mono ?_
        rintro e w2 ⟨rfl, rfl⟩
        go_wp2
        go_roundw
        case rel => exact ⟨j + 1, by omega, by go_num, HB1.out⟩
        case measure => simp [intOf]; omega
    · obtain rfl : 8 = j := by omega
      obtain ⟨s, hs⟩ : ∃ s : Nat, bits .and .i64 x 4194303 = (s : Int) ∧ s < 4194304 := ⟨(x % 4194304).toNat, by rw [i64_and22]; omega, by omega⟩
      obtain ⟨hs, hs4⟩ := hs
      have hmk := mk_u8 s s (Nat.le_refl _) (by omega) wr
      have HRd := Lib.hid (show Rd (wr.alloc (.cells (zc s) 5)) (some ⟨wr.heap.size, 0, none⟩) s s (List.replicate s 0) from Rd.zc wr s (by omega))
      have hB2 := HB.out.alloc HB.out.size (.cells (zc s) 5)
      have HB2 := Lib.hid hB2
      clear hB2
      obtain ⟨q, hq⟩ : ∃ q, q = s / 512 := ⟨_, rfl⟩
      have HQ := Lib.hid hq
      have e2 : (s : Int) / 512 = (q : Int) := by omega
      by_cases hok : OfOk s
      · have h512 : (s : Int) % 512 = 0 := by have := hok.1; omega
        have hlo : (32768 : Int) ≤ (s : Int) ∧ (s : Int) ≤ 2097152 := by have := hok.2; omega
        clear hq
        go_wp2_with fail
        refine (dv_Of_ok _ s s _ _ HRd.out hok).mono ?_
        rintro e w1 ⟨rfl, hD, hB1⟩
        rw [← HQ.out, show (wr.alloc (.cells (zc s) 5)).heap.size = wr.heap.size + 1 by simp] at hD
        have HD := Lib.hid hD
        have HB1 := Lib.hid (HB2.out.trans (hB1.mono HB2.out.size))
        clear hD hB1 hok
        go_wp2_with fail
        refine (dv_Blocks _ _ _ _ _ _ _ _ _ _ _ _ HD.out).mono ?_
        rintro e w2 ⟨rfl, rfl⟩
        go_wp2
        go_ret
        exact ⟨by simp, HB1.out⟩
      · have hno : (s : Int) % 512 ≠ 0 ∨ (s : Int) < 32768 ∨ 2097152 < (s : Int) := by
          by_cases h1 : s % 512 = 0
          · by_cases h2 : 64 ≤ s / 512
            · by_cases h3 : s / 512 ≤ 4096
              · exact absurd ⟨h1, h2, h3⟩ hok
              · omega
            · omega
          · omega
        clear hq
        go_wp2_with fail
        refine (dv_Of_bad _ s s _ _ HRd.out hok).mono ?_
        rintro e w1 ⟨rfl, hB1⟩
        have HB1 := Lib.hid (HB2.out.trans (hB1.mono HB2.out.size))
        clear hB1 hok
        rcases hno with h1 | h1 | h1
        · have d1 : ((s : Int) % 512 == 0) = false := by simpa using h1
          go_wp2
          go_ret
          exact ⟨by simp, HB1.out⟩
        · have d1 : decide ((32768 : Int) ≤ (s : Int)) = false := decide_eq_false (by omega)
          by_cases h2 : (s : Int) % 512 = 0
          · go_wp2
            go_ret
            exact ⟨by simp, HB1.out⟩
          · have d2 : ((s : Int) % 512 == 0) = false := by simpa using h2
            go_wp2
            go_ret
            exact ⟨by simp, HB1.out⟩
        · have d1 : decide ((s : Int) ≤ 2097152) = false := decide_eq_false (by omega)
          have d3 : (32768 : Int) ≤ (s : Int) := by omega
          by_cases h2 : (s : Int) % 512 = 0
          · go_wp2
            go_ret
            exact ⟨by simp, HB1.out⟩
          · have d2 : ((s : Int) % 512 == 0) = false := by simpa using h2
            go_wp2
            go_ret
            exact ⟨by simp, HB1.out⟩
end Go.Proofs.Ytjbffahmjhbpjaa
