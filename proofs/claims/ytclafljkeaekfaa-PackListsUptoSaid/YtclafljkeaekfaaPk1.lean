/- Walks of number, zigzag and the writer's lay. -/
import Derived.Test.YtclafljkeaekfaaPkW
import Derived.Test.YtclafljkeaekfaaPkBits
set_option linter.unusedVariables false
set_option linter.unusedSimpArgs false
namespace Go.Proofs.Ytclafljkeaekfaa
open Go.RowKit
set_option maxRecDepth 100000 in
theorem pk_number (v : Nat) (hv : v < 2 ^ 64) (w : World) :
    Calls Try.prog 73 #[.int .u64 v] w fun e w' => ∃ u, e = .returned u ∧ Own w' w.heap.size u (nf v).length (nf v) ∧ Below w.heap.size w w' := by
  have HV := Lib.hid hv
  clear hv
  go_enter Try.func73, Try.ntmps73
  go_wp2_with fail
  go_loopw [0, 3] (fun x s wr => ∃ k y : Nat, ∃ Lk : List UInt8, k ≤ 9 ∧ x = .int .u64 y ∧ y * 128 ^ k < 2 ^ 64 ∧ Own wr w.heap.size s Lk.length Lk ∧ nf v = Lk ++ nfF (10 - k) y ∧ Lk.length = k ∧ Below w.heap.size w wr) (fun x _ _ => (intOf x).toNat)
  case atStart => exact ⟨0, v, [], by omega, rfl, by simpa using HV.out, Own.nil _ _, rfl, rfl, Below.refl _ _⟩
  case round =>
    obtain ⟨k, y, Lk, hk, rfl, hy, hO, hN, hL, hB⟩ := hrel
    have HO := Lib.hid hO
    have HN := Lib.hid hN
    have HB := Lib.hid hB
    have HY := Lib.hid hy
    have hy2 : (y : Int) < 18446744073709551616 := by
      have h1 : y * 1 ≤ y * 128 ^ k := Nat.mul_le_mul_left _ (Nat.pow_pos (by omega))
      omega
    clear hO hN hB hy
    have hLk : Lk.length ≤ 9 := by omega
    have HL := Lib.hid hL
    have hz := HB.out.size
    clear hL
    by_cases hc : 128 ≤ y
    · have hc2 : (128 : Int) ≤ (y : Int) := by omega
      have hor := u8_or128 y
      have HT := Lib.hid (show k < 9 by
        rcases Nat.lt_or_ge k 9 with h | h
        · exact h
        · exfalso
          obtain rfl : k = 9 := by omega
          have h1 : 128 * 128 ^ 9 ≤ y * 128 ^ 9 := Nat.mul_le_mul_right _ hc
          have h2 := HY.out
          have h3 : (2 : Nat) ^ 64 < 128 * 128 ^ 9 := by decide
          omega)
      obtain ⟨cc, hcc⟩ : ∃ cc, cc = UInt8.ofNat (y % 128 + 128) := ⟨_, rfl⟩
      rw [← hcc] at hor
      have HC := Lib.hid hcc
      clear hcc
      go_wp2_with (at_builtin; refine wp_appB w.heap.size (HO.out.alloc _) (Rd.lit wr [cc] 1 rfl (by omega)) (by simp; omega) (by omega) _ _ rfl rfl rfl rfl ?_; intro v1 w1 hO1 hG1 hA1; have HO1 := Lib.hid hO1; have HG1 := Lib.hid hG1; clear hO1 hG1 hA1)
      go_roundw
      case rel =>
        refine ⟨k + 1, y / 128, Lk ++ [cc], by have := HT.out; omega, by go_num, ?_, by simpa using HO1.out, ?_, by simp [HL.out], (HB.out.alloc HB.out.size _).grown HG1.out (by simp; omega) (fun k hk => (HO.out.blk k hk).1)⟩
        · have h2 := HY.out
          rw [Nat.pow_succ, ← Nat.mul_assoc, Nat.mul_right_comm]
          exact Nat.lt_of_le_of_lt (Nat.mul_le_mul_right _ (Nat.div_mul_le_self y 128)) h2
        · rw [HN.out, show 10 - k = (10 - (k + 1)) + 1 by have := HT.out; omega, nfF_more _ _ hc, HC.out]
          simp
      case measure => simp [intOf]; omega
    · have hc2 : ¬ (128 : Int) ≤ (y : Int) := by omega
      obtain ⟨cc, rfl⟩ : ∃ cc : UInt8, y = cc.toNat := ⟨UInt8.ofNat y, (ofNat_toNat y (by omega)).symm⟩
      have HNF := Lib.hid (show nf v = Lk ++ [cc] by rw [HN.out, show 10 - k = (9 - k) + 1 by omega, nfF_last _ _ (by omega)]; simp)
      go_wp2_with (at_builtin; refine wp_appB w.heap.size (HO.out.alloc _) (Rd.lit wr [cc] 1 rfl (by omega)) (by simp; omega) (by omega) _ _ rfl rfl rfl rfl ?_; intro v1 w1 hO1 hG1 hA1; have HO1 := Lib.hid hO1; have HG1 := Lib.hid hG1; clear hO1 hG1 hA1)
      go_ret
      exact ⟨_, rfl, by rw [HNF.out]; simpa using HO1.out, (HB.out.alloc HB.out.size _).grown HG1.out (by simp; omega) (fun k hk => (HO.out.blk k hk).1)⟩
theorem pk_zigzag (v : Int) (h1 : -9223372036854775808 ≤ v) (h2 : v < 9223372036854775808) (w : World) :
    Calls Try.prog 75 #[.int .i64 v] w fun e w' => e = .returned (.int .u64 (zz v)) ∧ w' = w := by
  go_enter Try.func75, Try.ntmps75
  go_wp2
  go_ret
  have hz := zig v h1 h2
  simp [hz]
end Go.Proofs.Ytclafljkeaekfaa
