/- The walk of SumSums: it returns true for every input. No condition. -/
import Derived.Test.YtbcoplhfijgcfaaSumL2
set_option linter.unusedVariables false
set_option linter.unusedSimpArgs false
namespace Go.Proofs.Ytbcoplhfijgcfaa
open Go.RowKit SumMath
theorem walk_SumSums (A : Option Addr) (n c : Nat) (l : List UInt8) (b1 b2 : BitVec 32) (a3 : Int) (W : World) (w0 : Rd W A n c l) (z0 : n ≤ 140737488351232) (w3 : -9223372036854775808 ≤ a3 ∧ a3 < 9223372036854775808) :
    Calls Try.prog 7 #[.slice A n c, .int .u32 b1.toNat, .int .u32 b2.toNat, .int .i64 a3] W fun e W' => e = .returned (.bool true) ∧ Below W.heap.size W W' := by
  have HR := Lib.hid w0
  have hmx := w0.max
  clear w0 w3
  go_enter Try.func7, Try.ntmps7
  go_wp2_with fail
  refine (law_fixed W).mono ?_
  rintro e w1 ⟨rfl, hb1⟩
  go_wp2_with fail
  refine (law_dup _ _ _ l _ (HR.out.ext hb1)).mono ?_
  rintro e w2 ⟨v, rfl, hO, hb2⟩
  obtain ⟨A1, c1, rfl, hR1⟩ := hO.rd hmx
  have HR1 := Lib.hid hR1
  have hB2 := hb1.trans (hb2.mono hb1.size)
  clear hO hR1
  go_wp2_with fail
  refine (sum_Sum _ _ _ l _ HR1.out).mono ?_
  rintro e w3 ⟨rfl, hb3⟩
  have hB3 := hB2.trans (hb3.mono hB2.size)
  go_wp2_with fail
  refine (ref_Sum _ _ _ l _ (HR.out.ext hB3)).mono ?_
  rintro e w' ⟨rfl, rfl⟩
  go_wp2_with fail
  refine (sum_Update b1 _ _ _ l _ (HR1.out.ext hb3)).mono ?_
  rintro e w4 ⟨rfl, hb4⟩
  have hB4 := hB3.trans (hb4.mono hB3.size)
  go_wp2_with fail
  refine (ref_Update b1 _ _ _ l _ (HR.out.ext hB4)).mono ?_
  rintro e w' ⟨rfl, rfl⟩
  go_wp2_with fail
  refine (law_same _ _ _ _ _ _ l l _ (HR.out.ext hB4) ((HR1.out.ext hb3).ext hb4)).mono ?_
  rintro e w' ⟨rfl, rfl⟩
  rw [decide_eq_true (rfl : l = l)]
  go_wp2_with fail
  refine (sum_Join b1 b2 _ _).mono ?_
  rintro e w' ⟨rfl, rfl⟩
  go_wp2_with fail
  refine (ref_Join b1 b2 _ _).mono ?_
  rintro e w' ⟨rfl, rfl⟩
  go_wp2
  go_ret
  exact ⟨rfl, hB4⟩
end Go.Proofs.Ytbcoplhfijgcfaa
