/- Walks of Seal, the program's and the reference's. For every slice of bytes that has room. -/
import Derived.Test.YtbcoplhfijgcfaaSumW5
import Derived.Test.YtbcoplhfijgcfaaOwn
import Derived.WalkSpells
set_option linter.unusedVariables false
set_option linter.unusedSimpArgs false
namespace Go.Proofs.Ytbcoplhfijgcfaa
open Go.RowKit SumMath
theorem sum_Seal (A : Option Addr) (n c : Nat) (l : List UInt8) (w : World) (hr : Rd w A n c l) (hn : n + 4 ≤ 140737488355328) :
    Calls Try.prog 20 #[.slice A n c] w fun e w' => ∃ v, e = .returned v ∧ Own w' w.heap.size v (n + 4) (l ++ le4 (crc 0#32 l)) ∧ Below w.heap.size w w' := by
  have HR := Lib.hid hr
  have hmk := mk_u8_0 (n + 4) (by omega)
  have hm4 : (n : Int) + 4 = ((n + 4 : Nat) : Int) := by omega
  obtain ⟨m, hm⟩ : ∃ m, m = n + 4 := ⟨_, rfl⟩
  rw [← hm] at hmk hm4
  have HM := Lib.hid hm
  clear hm hr
  obtain ⟨s, hs⟩ : ∃ s, s = crc 0#32 l := ⟨_, rfl⟩
  have r0 := b8_0 s
  have r1 := b8_1 s
  have r2 := b8_2 s
  have r3 := b8_3 s
  have hl := s.isLt
  have HE := Lib.hid (show le4 s = [b8 s 0, b8 s 1, b8 s 2, b8 s 3] from rfl)
  generalize b8 s 0 = c0 at *
  generalize b8 s 1 = c1 at *
  generalize b8 s 2 = c2 at *
  generalize b8 s 3 = c3 at *
  have HS := Lib.hid hs
  clear hs
  go_enter Try.func20, Try.ntmps20
  go_wp2_with fail
  refine (sum_Sum _ _ _ _ _ HR.out).mono ?_
  rintro e w1 ⟨rfl, hb⟩
  rw [← HS.out]
  have HR1 := Lib.hid (HR.out.ext hb)
  have hz := hb.size
  go_wp2_with (first | (at_builtin; refine wp_app (w0 := w) w.heap.size (Own.made0 w1 _ m hz (by have := HM.out; omega)) (HR1.out.ext ((Below.refl _ _).alloc (Nat.le_refl _) _)) (hb.alloc hz _) (by simp; omega) (by omega) (.tmp 11) (.tmp 12) rfl rfl rfl rfl ?_; intro v2 w2 hO hB hG hat; clear hG hat; rw [Nat.zero_add, List.nil_append] at hO; have HO := Lib.hid hO; clear hO; have hz2 := hB.size) | (at_builtin; refine wp_app (w0 := w) (ys := [c0, c1, c2, c3]) w.heap.size (HO.out.alloc _) (by exact Rd.lit w2 [c0, c1, c2, c3] 4 rfl (by decide)) (hB.alloc hz2 _) (by simp; omega) (by omega) (.tmp 14) (.tmp 26) rfl rfl rfl rfl ?_; intro v3 w3 hO hB3 hG hat; clear hG hat; have HO3 := Lib.hid hO; clear hO))
  go_ret
  refine ⟨v3, rfl, ?_, hB3⟩
  rw [← HS.out, HE.out]
  exact HO3.out
theorem ref_Seal (A : Option Addr) (n c : Nat) (l : List UInt8) (w : World) (hr : Rd w A n c l) (hn : n + 4 ≤ 140737488355328) :
    Calls Try.prog 21 #[.slice A n c] w fun e w' => ∃ v, e = .returned v ∧ Own w' w.heap.size v (n + 4) (l ++ le4 (crc 0#32 l)) ∧ Below w.heap.size w w' := by
  have hm := hr.max
  have HR := Lib.hid hr
  clear hr
  obtain ⟨s, hs⟩ : ∃ s, s = crc 0#32 l := ⟨_, rfl⟩
  have hl := s.isLt
  have HS := Lib.hid hs
  clear hs
  go_enter Try.func21, Try.ntmps21
  go_wp2_with fail
  go_loopw [3, 4] (fun v i wr => ∃ k : Nat, k ≤ n ∧ i = .int .i64 k ∧ Own wr w.heap.size v k (l.take k) ∧ Below w.heap.size w wr) (fun _ i _ => n - (intOf i).toNat)
  case atStart => exact ⟨0, by omega, rfl, Own.nil _ _, Below.refl _ _⟩
  case round =>
    obtain ⟨k, hk, rfl, hO, hB⟩ := hrel
    have HO := Lib.hid hO
    clear hO
    have HRr := Lib.hid (HR.out.ext hB)
    have hz := hB.size
    by_cases hlt : k < n
    · obtain ⟨b, o, rfl, hc⟩ := HRr.out.at_ (by omega)
      have hcell := hc k hlt
      clear hc
      have h8 := (l.getD k 0).toNat_lt
      have HT := Lib.hid (take_snoc l k 0 (by rw [HR.out.len]; exact hlt))
      generalize l.getD k 0 = cc at *
      go_wp2_with (at_builtin; refine wp_app1 (w0 := w) w.heap.size cc HO.out hB hz (by omega) _ _ rfl rfl rfl rfl ?_; intro v1 w1 hO1 hB1 hG1 hat1; clear hG1 hat1; have HO1 := Lib.hid hO1; clear hO1)
      go_roundw
      case rel => exact ⟨k + 1, by omega, by go_num, by rw [HT.out]; exact HO1.out, hB1⟩
      case measure => simp [intOf]; omega
    · obtain rfl : k = n := by omega
      have HO2 := Lib.hid (show Own _ w.heap.size _ k l by have := HO.out; rwa [List.take_of_length_le (by rw [HR.out.len]; exact Nat.le_refl _)] at this)
      go_wp2_with fail
      refine (ref_Sum _ _ _ _ _ HRr.out).mono ?_
      rintro e w1 ⟨rfl, rfl⟩
      rw [← HS.out]
      go_wp2_with fail
      go_loopw [3, 5, 6] (fun v x j w2 => ∃ i : Nat, i ≤ 4 ∧ j = .int .i64 i ∧ x = .int .u32 ((s.toNat / 256 ^ i : Nat) : Int) ∧ Own w2 w.heap.size v (k + i) (l ++ (le4 s).take i) ∧ Below w.heap.size w w2) (fun _ _ j _ => 4 - (intOf j).toNat)
      case atStart => exact ⟨0, by omega, rfl, iv (by rw [Nat.pow_zero, Nat.div_one]), by rw [Nat.add_zero, List.take_zero, List.append_nil]; exact HO2.out, hB⟩
      case round =>
        rename_i w2
        obtain ⟨i, hi, rfl, rfl, hO3, hB3⟩ := hrel
        have HO3 := Lib.hid hO3
        clear hO3
        have hz3 := hB3.size
        by_cases hi4 : i < 4
        · have h1 : s.toNat / 256 ^ i ≤ s.toNat := Nat.div_le_self _ _
          have h2 : s.toNat / 256 ^ (i + 1) = s.toNat / 256 ^ i / 256 := by rw [Nat.pow_succ, Nat.div_div_eq_div_mul]
          have r0 : ((s.toNat / 256 ^ i : Nat) : Int) % 256 = ((b8 s i).toNat : Int) := by rw [b8_nat]; omega
          have HT := Lib.hid (le4_take s i hi4)
          have HP := Lib.hid h2
          clear h2
          have h8 := (b8 s i).toNat_lt
          generalize b8 s i = cc at *
          obtain ⟨q, hq⟩ : ∃ q, q = s.toNat / 256 ^ i := ⟨_, rfl⟩
          rw [← hq] at h1 r0 ⊢
          have HQ := Lib.hid hq
          clear hq
          go_wp2_with (at_builtin; refine wp_app1 (w0 := w) w.heap.size cc HO3.out hB3 hz3 (by omega) _ _ rfl rfl rfl rfl ?_; intro v1 w1 hO1 hB1 hG1 hat1; clear hG1 hat1; have HO1 := Lib.hid hO1; clear hO1)
          go_roundw
          case rel => exact ⟨i + 1, by omega, by go_num, iv (by rw [HP.out, ← HQ.out]; omega), by rw [HT.out, ← List.append_assoc]; exact HO1.out, hB1⟩
          case measure => simp [intOf]; omega
        · obtain rfl : i = 4 := by omega
          go_wp2_with fail
          go_ret
          exact ⟨_, rfl, by rw [← HS.out]; exact HO3.out, hB3⟩
end Go.Proofs.Ytbcoplhfijgcfaa
