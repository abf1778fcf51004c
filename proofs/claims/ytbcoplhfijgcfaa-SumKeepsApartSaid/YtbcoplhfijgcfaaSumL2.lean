/- The walk of the laws' helper fixed. -/
import Derived.Test.YtbcoplhfijgcfaaSumL1
import Derived.Test.YtbcoplhfijgcfaaSumW6
set_option linter.unusedVariables false
set_option linter.unusedSimpArgs false
namespace Go.Proofs.Ytbcoplhfijgcfaa
open Go.RowKit SumMath
theorem crc_check : crc 0#32 [49, 50, 51, 52, 53, 54, 55, 56, 57] = 3808858755#32 := by decide +kernel
theorem law_fixed (w : World) :
    Calls Try.prog 13 #[] w fun e w' => e = .returned (.bool true) ∧ Below w.heap.size w w' := by
  have HR := Lib.hid (Rd.lit w [49, 50, 51, 52, 53, 54, 55, 56, 57] 9 rfl (by decide) (9, 10))
  have kc := fun (w : World) (C : Array Value) (n c : Nat) => Lib.run_convert_bytes_const (P := Try.prog) w 24 5 C n c Try.underlying24 Try.underlying5
  go_enter Try.func13, Try.ntmps13
  go_wp2_with fail
  refine (sum_Sum _ _ _ _ _ HR.out).mono ?_
  rintro e w1 ⟨rfl, hb⟩
  rw [crc_check]
  go_wp2
  go_ret
  exact ⟨rfl, ((Below.refl _ _).alloc (Nat.le_refl _) _).trans (hb.mono (by simp))⟩
end Go.Proofs.Ytbcoplhfijgcfaa
