/- The walk of SumPatches: it returns true for every input. No condition. -/
import Derived.Test.YtbcoplhfijgcfaaSumL2
import Derived.Test.YtbcoplhfijgcfaaSumW9
set_option linter.unusedVariables false
set_option linter.unusedSimpArgs false
namespace Go.Proofs.Ytbcoplhfijgcfaa
open Go.RowKit SumMath
theorem walk_SumPatches (s : BitVec 32) (n at_ : Int) (A : Option Addr) (m c : Nat) (l : List UInt8) (A' : Option Addr) (m' c' : Nat) (l' : List UInt8) (W : World) (w1 : -9223372036854775808 ≤ n ∧ n < 9223372036854775808) (w2 : -9223372036854775808 ≤ at_ ∧ at_ < 9223372036854775808) (w3 : Rd W A m c l) (z3 : m ≤ 140737488351232) (w4 : Rd W A' m' c' l') (z4 : m' ≤ 140737488351232) :
    Calls Try.prog 10 #[.int .u32 s.toNat, .int .i64 n, .int .i64 at_, .slice A m c, .slice A' m' c'] W fun e W' => e = .returned (.bool true) ∧ Below W.heap.size W W' := by
  have HR := Lib.hid w3
  have HR' := Lib.hid w4
  clear w1 w2 w3 w4
  go_enter Try.func10, Try.ntmps10
  go_wp2_with fail
  refine (law_fixed W).mono ?_
  rintro e w1 ⟨rfl, hb1⟩
  go_wp2_with fail
  refine (law_dup _ _ _ l _ (HR.out.ext hb1)).mono ?_
  rintro e w2 ⟨v, rfl, hO, hb2⟩
  obtain ⟨A1, c1, rfl, hR1⟩ := hO.rd (by omega)
  have HR1 := Lib.hid hR1
  have hB2 := hb1.trans (hb2.mono hb1.size)
  clear hO hR1
  go_wp2_with fail
  refine (law_dup _ _ _ l' _ (HR'.out.ext hB2)).mono ?_
  rintro e w3 ⟨v, rfl, hO, hb3⟩
  obtain ⟨A2, c2, rfl, hR2⟩ := hO.rd (by omega)
  have HR2 := Lib.hid hR2
  have hB3 := hB2.trans (hb3.mono hB2.size)
  clear hO hR2
  go_wp2_with fail
  refine (sum_Patch s n at_ _ _ _ l _ _ _ l' _ (HR1.out.ext hb3) HR2.out).mono ?_
  rintro e w4 ⟨rfl, hb4⟩
  have hB4 := hB3.trans (hb4.mono hB3.size)
  go_wp2_with fail
  refine (ref_Patch s n at_ _ _ _ l _ _ _ l' _ (HR.out.ext hB4) (HR'.out.ext hB4)).mono ?_
  rintro e w5 ⟨rfl, hb5⟩
  have hB5 := hB4.trans (hb5.mono hB4.size)
  go_wp2_with fail
  refine (law_same _ _ _ _ _ _ l l _ (((HR1.out.ext hb3).ext hb4).ext hb5) (HR.out.ext hB5)).mono ?_
  rintro e w' ⟨rfl, rfl⟩
  rw [decide_eq_true (rfl : l = l)]
  go_wp2_with fail
  refine (law_same _ _ _ _ _ _ l' l' _ ((HR2.out.ext hb4).ext hb5) (HR'.out.ext hB5)).mono ?_
  rintro e w' ⟨rfl, rfl⟩
  rw [decide_eq_true (rfl : l' = l')]
  go_wp2
  go_ret
  exact ⟨rfl, hB5⟩
end Go.Proofs.Ytbcoplhfijgcfaa
