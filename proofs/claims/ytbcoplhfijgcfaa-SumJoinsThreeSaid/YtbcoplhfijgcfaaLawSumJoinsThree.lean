import Derived.Test.YtbcoplhfijgcfaaSumL2
set_option linter.unusedVariables false
set_option linter.unusedSimpArgs false
namespace Go.Proofs.Ytbcoplhfijgcfaa
open Go.RowKit SumMath
theorem joins_three (a b c : BitVec 32) (n m : Nat) (hn : n ≤ 549755813888) (hm : m ≤ 549755813888) :
    jv (jv a b n) c m = jv a (jv b c m) ((n : Int) + m) := by
  rw [show (n : Int) + m = ((n + m : Nat) : Int) by omega, jv_ok (by omega), jv_ok (by omega), jv_ok (by omega), jv_ok (by omega), Tn_xor, ← Tn_add, show 8 * m + 8 * n = 8 * (n + m) by omega, BitVec.xor_assoc]
theorem walk_SumJoinsThree (b0 b1 b2 : BitVec 32) (a3 a4 : Int) (W : World) (w3 : -9223372036854775808 ≤ a3 ∧ a3 < 9223372036854775808) (w4 : -9223372036854775808 ≤ a4 ∧ a4 < 9223372036854775808) :
    Calls Try.prog 8 #[.int .u32 b0.toNat, .int .u32 b1.toNat, .int .u32 b2.toNat, .int .i64 a3, .int .i64 a4] W fun e W' => e = .returned (.bool true) ∧ Below W.heap.size W W' := by
  by_cases hok : 0 ≤ a3 ∧ 0 ≤ a4 ∧ a3 ≤ 549755813888 ∧ a4 ≤ 549755813888
  · obtain ⟨n, rfl⟩ := Int.eq_ofNat_of_zero_le hok.1
    obtain ⟨m, rfl⟩ := Int.eq_ofNat_of_zero_le hok.2.1
    obtain ⟨_, _, hn, hm⟩ := hok
    have HJ := Lib.hid (joins_three b0 b1 b2 n m (by omega) (by omega))
    clear w3 w4
    go_enter Try.func8, Try.ntmps8
    go_wp2_with fail
    refine (law_fixed W).mono ?_
    rintro e w1 ⟨rfl, hb⟩
    go_wp2_with fail
    refine (sum_Join b0 b1 _ _).mono ?_
    rintro e w' ⟨rfl, rfl⟩
    rw [je_ok (by omega)]
    go_wp2_with fail
    refine (sum_Join _ b2 _ _).mono ?_
    rintro e w' ⟨rfl, rfl⟩
    rw [je_ok (by omega)]
    go_wp2_with fail
    refine (sum_Join b1 b2 _ _).mono ?_
    rintro e w' ⟨rfl, rfl⟩
    rw [je_ok (by omega)]
    go_wp2_with fail
    refine (sum_Join b0 _ _ _).mono ?_
    rintro e w' ⟨rfl, rfl⟩
    rw [← HJ.out, show (n : Int) + m = ((n + m : Nat) : Int) by omega, je_ok (by omega)]
    generalize jv (jv b0 b1 n) b2 m = z
    go_wp2
    go_ret
    exact ⟨rfl, hb⟩
  · have hc : a3 < 0 ∨ (¬ a3 < 0 ∧ a4 < 0) ∨ (¬ a3 < 0 ∧ ¬ a4 < 0 ∧ 549755813888 < a3) ∨ (¬ a3 < 0 ∧ ¬ a4 < 0 ∧ ¬ 549755813888 < a3 ∧ 549755813888 < a4) := by omega
    clear hok
    rcases hc with h1 | ⟨h1, h2⟩ | ⟨h1, h2, h3⟩ | ⟨h1, h2, h3, h4⟩
    all_goals
      go_enter Try.func8, Try.ntmps8
      go_wp2_with (go_at_call 13; refine (law_fixed W).mono ?_; rintro e w1 ⟨rfl, hb⟩)
      go_ret
      exact ⟨rfl, hb⟩
end Go.Proofs.Ytbcoplhfijgcfaa
