/- The walk of the reference's Parts. For every list of slices of bytes that are together of at most 1048576 bytes. -/
import Derived.Test.YtbcoplhfijgcfaaSumW10
set_option linter.unusedVariables false
set_option linter.unusedSimpArgs false
namespace Go.Proofs.Ytbcoplhfijgcfaa
open Go.RowKit SumMath
theorem flatten_take_succ (ls : List (List UInt8)) (k : Nat) (h : k < ls.length) : (ls.take (k + 1)).flatten = (ls.take k).flatten ++ ls.getD k [] := by
  rw [take_snoc ls k [] h, List.flatten_append]; simp
theorem flatten_take_le (ls : List (List UInt8)) : ∀ k, (ls.take k).flatten.length ≤ ls.flatten.length := by
  intro k
  conv => rhs; rw [← List.take_append_drop k ls, List.flatten_append, List.length_append]
  omega
theorem ref_Parts (A : Option Addr) (n c : Nat) (ls : List (List UInt8)) (w : World) (hr : Rds w A n c ls) (hs : ls.flatten.length ≤ 1048576) :
    Calls Try.prog 16 #[.slice A n c] w fun e w' => e = .returned (.int .u32 (crc 0#32 ls.flatten).toNat) ∧ Below w.heap.size w w' := by
  have hm := hr.max
  have HR := Lib.hid hr
  clear hr
  go_enter Try.func16, Try.ntmps16
  go_wp2_with fail
  go_loopw [3, 4, 5] (fun v i _ wr => ∃ k q : Nat, k ≤ n ∧ i = .int .i64 k ∧ q = (ls.take k).flatten.length ∧ Own wr w.heap.size v q (ls.take k).flatten ∧ Below w.heap.size w wr) (fun _ i _ _ => n - (intOf i).toNat)
  case atStart => exact ⟨0, 0, by omega, rfl, rfl, Own.nil _ _, Below.refl _ _⟩
  case round =>
    obtain ⟨k, q, hk, rfl, hq, hO, hB⟩ := hrel
    have HO := Lib.hid hO
    have HQ := Lib.hid hq
    clear hO hq
    by_cases hlt : k < n
    · obtain ⟨b, o, rfl, hc⟩ := HR.out.at_ (by omega)
      obtain ⟨A1, n1, c1, hcw, hR1⟩ := hc k hlt
      have hn1 := hR1.len
      have HR1 := Lib.hid hR1
      have HCW := Lib.hid hcw
      have hcell := cell_ext hB hcw
      clear hc hR1 hcw
      have HT := Lib.hid (flatten_take_succ ls k (by rw [HR.out.len]; exact hlt))
      have hsz : q + n1 ≤ 1048576 := by
        have := flatten_take_le ls (k + 1)
        rw [HT.out, List.length_append, ← HQ.out, hn1] at this
        omega
      have HN := Lib.hid hn1
      clear hn1
      generalize ls.getD k [] = l1 at *
      obtain ⟨wo, rfl⟩ : ∃ wo : World, wo = wr := ⟨_, rfl⟩
      go_wp2_with fail
      go_loopw [3, 5] (fun v i wi => ∃ j : Nat, j ≤ n1 ∧ i = .int .i64 j ∧ Own wi w.heap.size v (q + j) ((ls.take k).flatten ++ l1.take j) ∧ Below w.heap.size w wi) (fun _ i _ => n1 - (intOf i).toNat)
      case atStart => exact ⟨0, by omega, rfl, by rw [Nat.add_zero, List.take_zero, List.append_nil]; exact HO.out, hB⟩
      case round =>
        obtain ⟨j, hj, rfl, hO2, hB2⟩ := hrel
        have HO2 := Lib.hid hO2
        have hz2 := hB2.size
        have hcell2 := cell_ext hB2 HCW.out
        clear hO2 hcell
        by_cases hj1 : j < n1
        · obtain ⟨b1, o1, rfl, hc1⟩ := (HR1.out.ext hB2).at_ (by omega)
          have hcell3 := hc1 j hj1
          clear hc1
          have h8 := (l1.getD j 0).toNat_lt
          have HT1 := Lib.hid (take_snoc l1 j 0 (by rw [HN.out]; exact hj1))
          generalize l1.getD j 0 = cc at *
          go_wp2_with (at_builtin; refine wp_app1 (w0 := w) w.heap.size cc HO2.out hB2 hz2 (by omega) _ _ rfl rfl rfl rfl ?_; intro v1 w1 hO1 hB1 hG1 hat1; clear hG1 hat1; have HO1 := Lib.hid hO1; clear hO1)
          go_roundw
          case rel => exact ⟨j + 1, by omega, by go_num, by rw [HT1.out, ← List.append_assoc]; exact HO1.out, hB1⟩
          case measure => simp [intOf]; omega
        · obtain rfl : j = n1 := by omega
          go_wp2_with fail
          go_roundw
          case rel => exact ⟨k + 1, q + j, by omega, by go_num, by rw [HT.out, List.length_append, ← HQ.out, HN.out], by rw [HT.out]; have := HO2.out; rwa [show l1.take j = l1 from List.take_of_length_le (by rw [HN.out]; exact Nat.le_refl _)] at this, hB2⟩
          case measure => simp [intOf]; omega
    · obtain rfl : k = n := by omega
      have HO3 := Lib.hid (show Own _ w.heap.size _ q ls.flatten by have := HO.out; rwa [List.take_of_length_le (by rw [HR.out.len]; exact Nat.le_refl _)] at this)
      have hq1 : q ≤ 1048576 := by have := HO3.out.len; omega
      obtain ⟨A4, c4, rfl, hR4⟩ := HO3.out.rd (by omega)
      have HR4 := Lib.hid hR4
      clear hR4
      go_wp2_with (go_at_call 24; refine (ref_Sum _ _ _ _ _ HR4.out).mono ?_; rintro e w' ⟨rfl, rfl⟩)
      go_ret
      exact ⟨rfl, hB⟩
end Go.Proofs.Ytbcoplhfijgcfaa
