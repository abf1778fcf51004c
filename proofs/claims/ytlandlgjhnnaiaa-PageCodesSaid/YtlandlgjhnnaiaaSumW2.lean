/- The walk of the reference's over. For every slice of bytes. -/
import Derived.Test.YtlandlgjhnnaiaaSumW1
set_option linter.unusedVariables false
set_option linter.unusedSimpArgs false
namespace Go.Proofs.Ytlandlgjhnnaiaa
open Go.RowKit SumMath
theorem ref_over (x : BitVec 32) (A : Option Addr) (n c : Nat) (l : List UInt8) (w : World) (hr : Rd w A n c l) :
    Calls Try.prog 67 #[.int .u32 x.toNat, .slice A n c] w fun e w' => e = .returned (.int .u32 (ov x l).toNat) ∧ w = w' := by
  have hm := hr.max
  have HL := Lib.hid hr.len
  have HA := Lib.hid hr.at_
  clear hr
  go_enter Try.func67, Try.ntmps67
  go_wp2
  go_loop [0, 5, 6] (fun v i _ => ∃ k : Nat, k ≤ n ∧ v = .int .u32 (ov x (l.take k)).toNat ∧ i = .int .i64 k) (fun _ i _ => n - (intOf i).toNat)
  case atStart => exact ⟨0, by omega, rfl, rfl⟩
  case round =>
    obtain ⟨k, hk, rfl, rfl⟩ := hrel
    by_cases hlt : k < n
    · obtain ⟨b, o, rfl, hc⟩ := HA.out (by omega)
      have hcell := hc k hlt
      clear hc
      have h8 := (l.getD k 0).toNat_lt
      have HX := Lib.hid (xor_byte (ov x (l.take k)) (l.getD k 0))
      have HT := Lib.hid (take_snoc l k 0 (by rw [HL.out]; exact hlt))
      generalize l.getD k 0 = cc at *
      go_wp2
      go_loop [0, 6] (fun v j => ∃ i : Nat, i ≤ 8 ∧ v = .int .u32 (Tn i (ov x (l.take k) ^^^ BitVec.ofNat 32 cc.toNat)).toNat ∧ j = .int .i64 i) (fun _ j => 8 - (intOf j).toNat)
      case atStart => exact ⟨0, by omega, iv (by rw [HX.out]; rfl), rfl⟩
      case round =>
        obtain ⟨i, hi, rfl, rfl⟩ := hrel
        by_cases h8' : i < 8
        · go_wp2_with (go_at_call 69; refine (ref_step _ _).mono ?_; rintro e w' ⟨rfl, rfl⟩)
          refine ⟨⟨i + 1, by omega, iv (by rw [Tn_succ']), by go_num⟩, by simp [intOf]; omega⟩
        · obtain rfl : i = 8 := by omega
          go_wp2
          refine ⟨⟨k + 1, by omega, iv (by rw [HT.out, ov_snoc]; rfl), by go_num⟩, by simp [intOf]; omega⟩
    · go_wp2
      go_ret
      exact ⟨ret_u32 (by rw [List.take_of_length_le (by rw [HL.out]; omega)]), rfl⟩
end Go.Proofs.Ytlandlgjhnnaiaa
