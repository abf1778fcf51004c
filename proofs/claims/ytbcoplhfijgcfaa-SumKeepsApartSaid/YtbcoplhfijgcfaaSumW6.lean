/- Walks of Join, the program's and the reference's. -/
import Derived.Test.YtbcoplhfijgcfaaSumW5
set_option linter.unusedVariables false
set_option linter.unusedSimpArgs false
namespace Go.Proofs.Ytbcoplhfijgcfaa
open Go.RowKit SumMath
theorem ret_ui {a b c d : Int} (h : a = b) (h' : c = d) : Ending.returned (.tuple #[.int .u32 a, .int .i64 c]) = .returned (.tuple #[.int .u32 b, .int .i64 d]) := by rw [h, h']
theorem sum_Join (a b : BitVec 32) (n : Int) (w : World) :
    Calls Try.prog 27 #[.int .u32 a.toNat, .int .u32 b.toNat, .int .i64 n] w fun e w' => e = .returned (.tuple #[.int .u32 (jv a b n).toNat, .int .i64 (je n)]) ∧ w = w' := by
  by_cases h0 : n < 0
  · have HV := Lib.hid (jv_bad (a := a) (b := b) (n := n) (by omega))
    have HE := Lib.hid (je_bad (n := n) (by omega))
    go_enter Try.func27, Try.ntmps27
    go_wp2
    go_ret2
    exact ⟨ret_ui (by rw [HV.out]; rfl) (by rw [HE.out]), rfl⟩
  · by_cases h1 : 1099511627776 < n
    · have HV := Lib.hid (jv_bad (a := a) (b := b) (n := n) (by omega))
      have HE := Lib.hid (je_bad (n := n) (by omega))
      go_enter Try.func27, Try.ntmps27
      go_wp2
      go_ret2
      exact ⟨ret_ui (by rw [HV.out]; rfl) (by rw [HE.out]), rfl⟩
    · obtain ⟨m, rfl⟩ := Int.eq_ofNat_of_zero_le (show 0 ≤ n by omega)
      have HV := Lib.hid (jv_ok (a := a) (b := b) (n := m) (by omega))
      have HE := Lib.hid (je_ok (n := m) (by omega))
      have r1 := Lib.hid (xor_nat (Tn (8 * m) a) b)
      go_enter Try.func27, Try.ntmps27
      go_wp2_with (go_at_call 35; refine (sum_moved _ _ (by omega) _).mono ?_; rintro e w' ⟨rfl, rfl⟩)
      go_ret2
      exact ⟨ret_ui (by rw [HV.out, r1.out]) (by rw [HE.out]), rfl⟩
theorem ref_Join (a b : BitVec 32) (n : Int) (w : World) :
    Calls Try.prog 28 #[.int .u32 a.toNat, .int .u32 b.toNat, .int .i64 n] w fun e w' => e = .returned (.tuple #[.int .u32 (jv a b n).toNat, .int .i64 (je n)]) ∧ w = w' := by
  by_cases h0 : n < 0
  · have HV := Lib.hid (jv_bad (a := a) (b := b) (n := n) (by omega))
    have HE := Lib.hid (je_bad (n := n) (by omega))
    go_enter Try.func28, Try.ntmps28
    go_wp2
    go_ret2
    exact ⟨ret_ui (by rw [HV.out]; rfl) (by rw [HE.out]), rfl⟩
  · by_cases h1 : 1099511627776 < n
    · have HV := Lib.hid (jv_bad (a := a) (b := b) (n := n) (by omega))
      have HE := Lib.hid (je_bad (n := n) (by omega))
      go_enter Try.func28, Try.ntmps28
      go_wp2
      go_ret2
      exact ⟨ret_ui (by rw [HV.out]; rfl) (by rw [HE.out]), rfl⟩
    · obtain ⟨m, rfl⟩ := Int.eq_ofNat_of_zero_le (show 0 ≤ n by omega)
      have HV := Lib.hid (jv_ok (a := a) (b := b) (n := m) (by omega))
      have HE := Lib.hid (je_ok (n := m) (by omega))
      have r1 := Lib.hid (xor_nat (Tn (8 * m) a) b)
      go_enter Try.func28, Try.ntmps28
      go_wp2_with (go_at_call 36; refine (ref_zeros _ _ (by omega) _).mono ?_; rintro e w' ⟨rfl, rfl⟩)
      go_ret2
      exact ⟨ret_ui (by rw [HV.out, r1.out]) (by rw [HE.out]), rfl⟩
end Go.Proofs.Ytbcoplhfijgcfaa
