/- The walk of sum's Parts. For every list of slices of bytes. -/
import Derived.Test.YtbcoplhfijgcfaaSumW5
import Derived.Test.YtbcoplhfijgcfaaOwn
set_option linter.unusedVariables false
set_option linter.unusedSimpArgs false
namespace Go.Proofs.Ytbcoplhfijgcfaa
open Go.RowKit SumMath
theorem sum_Parts (A : Option Addr) (n c : Nat) (ls : List (List UInt8)) (w : World) (hr : Rds w A n c ls) :
    Calls Try.prog 15 #[.slice A n c] w fun e w' => e = .returned (.int .u32 (crc 0#32 ls.flatten).toNat) ∧ Below w.heap.size w w' := by
  have hm := hr.max
  have HR := Lib.hid hr
  clear hr
  go_enter Try.func15, Try.ntmps15
  go_wp2_with fail
  go_loopw [3, 5, 8] (fun s _ i wr => ∃ k : Nat, k ≤ n ∧ i = .int .i64 k ∧ s = .int .u32 (crc 0#32 (ls.take k).flatten).toNat ∧ Below w.heap.size w wr) (fun _ _ i _ => n - (intOf i).toNat)
  case atStart => exact ⟨0, by omega, rfl, by rw [List.take_zero]; exact rfl, Below.refl _ _⟩
  case round =>
    obtain ⟨k, hk, rfl, rfl, hB⟩ := hrel
    have HRr := Lib.hid (HR.out.ext hB)
    have hz := hB.size
    by_cases hlt : k < n
    · obtain ⟨b, o, rfl, hc⟩ := HRr.out.at_ (by omega)
      obtain ⟨A1, n1, c1, hcell, hR1⟩ := hc k hlt
      have HR1 := Lib.hid hR1
      clear hc hR1
      have HT := Lib.hid (take_snoc ls k [] (by rw [HR.out.len]; exact hlt))
      generalize ls.getD k [] = l1 at *
      go_wp2_with (go_at_call 25; refine (sum_Update _ _ _ _ l1 _ HR1.out).mono ?_; rintro e w1 ⟨rfl, hb1⟩)
      go_roundw
      case rel => exact ⟨k + 1, by omega, by go_num, by rw [HT.out, List.flatten_append, crc_append]; simp, hB.trans (hb1.mono hz)⟩
      case measure => simp [intOf]; omega
    · obtain rfl : k = n := by omega
      go_wp2
      go_ret
      exact ⟨ret_u32 (by rw [List.take_of_length_le (by rw [HR.out.len]; exact Nat.le_refl _)]), hB⟩
end Go.Proofs.Ytbcoplhfijgcfaa
