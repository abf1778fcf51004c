/- The laws' own helpers over the device: full. -/
import Derived.Test.YtjbffahmjhbpjaaDvb
set_option linter.unusedVariables false
set_option linter.unusedSimpArgs false
set_option maxRecDepth 100000
namespace Go.Proofs.Ytjbffahmjhbpjaa
open Go.RowKit
theorem l6_full (c : UInt8) (w : World) : Calls Try.prog 15 #[.int .u8 (c.toNat : Int)] w fun e w' => ∃ u, e = .returned u ∧ NewB w u (List.replicate 512 c) w' := by
  have hmk := mk512
  go_enter Try.func15, Try.ntmps15
  go_wp2_with fail
  clear hmk
  have H0 := Lib.hid (show Own (w.alloc (.cells (zc 512) 5)) w.heap.size (.slice (some ⟨w.heap.size, 0, none⟩) 512 512) 512 (List.replicate 512 0) from Own.row (Nat.le_refl _) (by simp) (by omega) (by rw [← zc_bv]; exact heap_alloc_new w _))
  go_loopw [4] (fun x wx => ∃ k : Nat, k ≤ 512 ∧ x = .int .i64 k ∧ Own wx w.heap.size (.slice (some ⟨w.heap.size, 0, none⟩) 512 512) 512 (List.replicate k c ++ List.replicate (512 - k) 0) ∧ Below w.heap.size w wx) (fun x _ => 512 - (intOf x).toNat)
  case atStart => exact ⟨0, by omega, rfl, by simpa using H0.out, (Below.refl _ w).alloc (Nat.le_refl _) _⟩
  case round =>
    obtain ⟨k, hk, rfl, hO, hB⟩ := hrel
    have HO := Lib.hid hO
    have HB := Lib.hid hB
    by_cases hkn : k < 512
    · have hcell := hO.cell k hkn
      have hfree := hO.free k
      have HST := Lib.hid (show List.replicate (k + 1) c ++ List.replicate (512 - (k + 1)) 0 = (List.replicate k c ++ List.replicate (512 - k) 0).set k c by
        rw [List.set_append_right _ _ (by simp), List.length_replicate, Nat.sub_self, show 512 - k = (512 - (k + 1)) + 1 by omega, List.replicate_succ (n := 512 - (k + 1)), List.set_cons_zero, List.replicate_succ', List.append_assoc]
        rfl)
      generalize (List.replicate k c ++ List.replicate (512 - k) 0).getD k 0 = y at hcell
      clear hO hB
      go_wp2
      go_roundw
      case rel => exact ⟨k + 1, by omega, by go_num, by rw [HST.out]; exact HO.out.store k c, HB.out.setCell (by simp) _⟩
      case measure => simp [intOf]; omega
    · obtain rfl : k = 512 := by omega
      clear hO hB
      go_wp2
      go_ret
      exact ⟨_, rfl, w.heap.size, rfl, by simpa using HO.out, HB.out⟩
end Go.Proofs.Ytjbffahmjhbpjaa
