/- Walks of Update and Sum, the program's and the reference's. -/
import Derived.Test.YtlandlgjhnnaiaaSumW4
set_option linter.unusedVariables false
set_option linter.unusedSimpArgs false
namespace Go.Proofs.Ytlandlgjhnnaiaa
open Go.RowKit SumMath
theorem sum_Update (x : BitVec 32) (A : Option Addr) (n c : Nat) (l : List UInt8) (w : World) (hr : Rd w A n c l) :
    Calls Try.prog 60 #[.int .u32 x.toNat, .slice A n c] w fun e w' => e = .returned (.int .u32 (crc x l).toNat) ∧ Below w.heap.size w w' := by
  have HR := Lib.hid hr
  have r1 := ones_xor x
  obtain ⟨y, hy⟩ : ∃ y, y = ~~~x := ⟨_, rfl⟩
  have HE := Lib.hid (show crc x l = ~~~ (ov y l) by rw [hy]; rfl)
  rw [← hy] at r1
  have r2 := Lib.hid (ones_xor (ov y l))
  have hs : IntKind.u32.signed = false := rfl
  have hx : IntKind.u32.max = 4294967295 := rfl
  clear hr hy
  go_enter Try.func60, Try.ntmps60
  go_wp2_with (go_at_call 66; refine (sum_over _ _ _ _ _ _ HR.out).mono ?_; rintro e w' ⟨rfl, hb⟩)
  go_ret
  exact ⟨ret_u32 (by rw [HE.out]; exact r2.out), hb⟩
theorem ref_Update (x : BitVec 32) (A : Option Addr) (n c : Nat) (l : List UInt8) (w : World) (hr : Rd w A n c l) :
    Calls Try.prog 63 #[.int .u32 x.toNat, .slice A n c] w fun e w' => e = .returned (.int .u32 (crc x l).toNat) ∧ w = w' := by
  have HR := Lib.hid hr
  have r1 := ones_xor x
  obtain ⟨y, hy⟩ : ∃ y, y = ~~~x := ⟨_, rfl⟩
  have HE := Lib.hid (show crc x l = ~~~ (ov y l) by rw [hy]; rfl)
  rw [← hy] at r1
  have r2 := Lib.hid (ones_xor (ov y l))
  clear hr hy
  go_enter Try.func63, Try.ntmps63
  go_wp2_with (go_at_call 67; refine (ref_over _ _ _ _ _ _ HR.out).mono ?_; rintro e w' ⟨rfl, rfl⟩)
  go_ret
  exact ⟨ret_u32 (by rw [HE.out]; exact r2.out), rfl⟩
theorem ref_Sum (A : Option Addr) (n c : Nat) (l : List UInt8) (w : World) (hr : Rd w A n c l) :
    Calls Try.prog 62 #[.slice A n c] w fun e w' => e = .returned (.int .u32 (crc 0#32 l).toNat) ∧ w = w' := by
  have HR := Lib.hid hr
  have HE := Lib.hid (show crc 0#32 l = ~~~ (ov (4294967295#32) l) from rfl)
  clear hr
  go_enter Try.func62, Try.ntmps62
  go_wp2_with (go_at_call 67; refine (ref_over (4294967295#32) _ _ _ _ _ HR.out).mono ?_; rintro e w' ⟨rfl, rfl⟩)
  go_ret
  exact ⟨ret_u32 (by rw [HE.out]; exact ones_xor _), rfl⟩
theorem sum_Sum (A : Option Addr) (n c : Nat) (l : List UInt8) (w : World) (hr : Rd w A n c l) :
    Calls Try.prog 61 #[.slice A n c] w fun e w' => e = .returned (.int .u32 (crc 0#32 l).toNat) ∧ Below w.heap.size w w' := by
  have HR := Lib.hid hr
  clear hr
  go_enter Try.func61, Try.ntmps61
  go_wp2_with (go_at_call 60; refine (sum_Update (0#32) _ _ _ _ _ HR.out).mono ?_; rintro e w' ⟨rfl, hb⟩)
  go_ret
  exact ⟨rfl, hb⟩
end Go.Proofs.Ytlandlgjhnnaiaa
