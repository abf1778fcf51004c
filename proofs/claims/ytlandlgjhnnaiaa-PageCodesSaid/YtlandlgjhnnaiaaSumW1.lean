/- Walks of sum's and the reference's small functions: turned, step, product, times, moved, zeros. For every input. -/
import Derived.Test.YtlandlgjhnnaiaaProg
import Derived.Test.YtlandlgjhnnaiaaSumMath
import Derived.Test.YtlandlgjhnnaiaaW
import Derived.WalkKit
import Derived.KernelRfl
import Derived.RowKit
import Derived.Lib.Hide
set_option linter.unusedVariables false
set_option linter.unusedSimpArgs false
namespace Go.Proofs.Ytlandlgjhnnaiaa
open Go.RowKit SumMath
theorem sum_turned (b : BitVec 32) (w : World) :
    Calls Try.prog 70 #[.int .u32 b.toNat] w fun e w' => e = .returned (.int .u32 (T b).toNat) ∧ w = w' := by
  have h1 := b.isLt
  generalize hx : (b.toNat : Int) = x
  have hl : 0 ≤ x ∧ x < 4294967296 := by omega
  have H := Lib.hid hx; clear hx h1
  obtain ⟨h0, h1⟩ := hl
  go_enter Try.func70, Try.ntmps70
  go_wp2
  · go_ret
    exact ⟨ret_u32 (turned_yes H.out.symm ‹_›), rfl⟩
  · go_ret
    exact ⟨ret_u32 (turned_no H.out.symm ‹_›), rfl⟩
theorem ref_step (b : BitVec 32) (w : World) :
    Calls Try.prog 69 #[.int .u32 b.toNat] w fun e w' => e = .returned (.int .u32 (T b).toNat) ∧ w = w' := by
  have h1 := b.isLt
  generalize hx : (b.toNat : Int) = x
  have hl : 0 ≤ x ∧ x < 4294967296 := by omega
  have H := Lib.hid hx; clear hx h1
  obtain ⟨h0, h1⟩ := hl
  go_enter Try.func69, Try.ntmps69
  go_wp2
  · go_ret
    exact ⟨ret_u32 (step_yes H.out.symm ‹_›), rfl⟩
  · go_ret
    exact ⟨ret_u32 (step_no H.out.symm ‹_›), rfl⟩

theorem Tn_succ' (i : Nat) (b : BitVec 32) : T (Tn i b) = Tn (i + 1) b := T_Tn i b
theorem i64_and1 (r : Nat) (h : r < 9223372036854775808) : bits .and .i64 (r : Int) 1 = ((r % 2 : Nat) : Int) := by
  have h2 := bits_mask .i64 63 (by decide) (by intro n h0 h1; rw [IntKind.wrap_i64]; omega) 1 (by decide) (r : Int) (by omega) (by omega)
  simp at h2
  rw [h2]; omega
theorem mv_odd {s r n : Nat} {x a : BitVec 32} (h : Tn (s * r) x = Tn (8 * n) a) (ho : r % 2 = 1) : Tn (s * 2 * (r / 2)) (Tn s x) = Tn (8 * n) a := by
  rw [← Tn_add, ← h]; congr 1
  obtain ⟨q, rfl⟩ : ∃ q, r = 2 * q + 1 := ⟨r / 2, by omega⟩
  rw [show (2 * q + 1) / 2 = q by omega, Nat.mul_add, Nat.mul_assoc, Nat.mul_one]
theorem mv_even {s r n : Nat} {x a : BitVec 32} (h : Tn (s * r) x = Tn (8 * n) a) (ho : r % 2 = 0) : Tn (s * 2 * (r / 2)) x = Tn (8 * n) a := by
  rw [← h]; congr 1
  obtain ⟨q, rfl⟩ : ∃ q, r = 2 * q := ⟨r / 2, by omega⟩
  rw [show (2 * q) / 2 = q by omega, Nat.mul_assoc]
theorem pow_sq (s : Nat) : pr (Tn s e0) (Tn s e0) 32 = Tn (s * 2) e0 := by rw [pr_pow, ← Tn_add, Nat.mul_two]
end Go.Proofs.Ytlandlgjhnnaiaa
