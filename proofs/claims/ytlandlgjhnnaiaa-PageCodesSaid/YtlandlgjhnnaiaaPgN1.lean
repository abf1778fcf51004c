/- The reference's number, text, SumOf: bytes behind bytes. -/
import Derived.Test.YtlandlgjhnnaiaaPg9
import Derived.Test.YtlandlgjhnnaiaaPg12
import Derived.Test.YtlandlgjhnnaiaaBlk
set_option linter.unusedVariables false
set_option linter.unusedSimpArgs false
set_option maxRecDepth 100000
namespace Go.Proofs.Ytlandlgjhnnaiaa
open Go.RowKit SumMath
theorem leB_four (n : Int) : leB 4 n = [b8 n, b8 (n / 256), b8 (n / 65536), b8 (n / 16777216)] := by
  have h1 : n / 256 / 256 = n / 65536 := Int.ediv_ediv_of_nonneg (by omega)
  have h2 : n / 65536 / 256 = n / 16777216 := Int.ediv_ediv_of_nonneg (by omega)
  simp only [leB, h1, h2]
  rfl
theorem rn_number (base : Nat) (v : Value) (k : Nat) (L : List UInt8) (n : Int) (w : World) (hO : Own w base v k L) (hb : base ≤ w.heap.size) (hk : k ≤ 100000000) :
    Calls Try.prog 42 #[v, .int .i64 n] w fun e w' => ∃ A c, e = .returned (.slice A (k + 4) c) ∧ Own w' base (.slice A (k + 4) c) (k + 4) (L ++ leB 4 n) ∧ Below base w w' := by
  have HO := Lib.hid hO
  obtain ⟨A0, c0, rfl⟩ := hO.slice
  have hbw := b8_wrap
  have HL := Lib.hid (leB_four n)
  clear hO
  go_enter Try.func42, Try.ntmps42
  go_wp2_with (at_builtin; refine wp_app (w0 := w) base (HO.out.alloc _) (Rd.lit w [b8 n, b8 (n / 256), b8 (n / 65536), b8 (n / 16777216)] 4 rfl (by decide)) ((Below.refl base w).alloc hb _) (by simp; omega) (by omega) _ _ rfl rfl rfl rfl ?_; intro v1 w1 hO1 hB1 hG1 hA1; have HO1 := Lib.hid hO1; have HB1 := Lib.hid hB1; obtain ⟨A1, c1, rfl⟩ := hO1.slice; clear hO1 hB1 hG1 hA1)
  go_ret
  exact ⟨A1, c1, rfl, by rw [HL.out]; exact HO1.out, HB1.out⟩
theorem rn_text (base : Nat) (v : Value) (k : Nat) (L : List UInt8) (s : ByteArray) (w : World) (hO : Own w base v k L) (hb : base ≤ w.heap.size) (hk : k ≤ 100000000) (hs : s.size ≤ 100000000) :
    Calls Try.prog 41 #[v, .string s] w fun e w' => ∃ A c, e = .returned (.slice A (k + s.size) c) ∧ Own w' base (.slice A (k + s.size) c) (k + s.size) (L ++ byS s) ∧ Below base w w' := by
  have HO := Lib.hid hO
  have HBS := Lib.hid (byS_len s)
  obtain ⟨S, hS⟩ : ∃ S, S = byS s := ⟨_, rfl⟩
  rw [← hS] at HBS ⊢
  have HIX := Lib.hid (show ∀ i (hi : i < s.size), S.getD i 0 = s[i]'hi from fun i hi => by
    have h2 : i < s.data.size := hi
    rw [hS, byS, List.getD_eq_getElem?_getD, Array.getElem?_toList, Array.getElem?_eq_getElem h2]
    rfl)
  clear hO hS
  go_enter Try.func41, Try.ntmps41
  go_wp2_with fail
  go_loopw [0, 5] (fun u x wx => ∃ i : Nat, i ≤ s.size ∧ x = .int .i64 i ∧ Own wx base u (k + i) (L ++ S.take i) ∧ Below base w wx) (fun _ x _ => s.size - (intOf x).toNat)
  case atStart => exact ⟨0, by omega, rfl, by rw [List.take_zero, List.append_nil]; exact HO.out, Below.refl _ _⟩
  case round =>
    obtain ⟨i, hi, rfl, hO, hB⟩ := hrel
    have HOi := Lib.hid hO
    have HB := Lib.hid hB
    have hz := hB.size
    obtain ⟨A0, c0, rfl⟩ := hO.slice
    clear hO hB
    by_cases hin : i < s.size
    · have hi0 : (0 : Int) ≤ (i : Int) ∧ (i : Int) < (s.size : Int) := by omega
      have HST := Lib.hid (show L ++ S.take (i + 1) = (L ++ S.take i) ++ [S.getD i 0] by rw [take_snoc S i 0 (by rw [HBS.out]; exact hin), List.append_assoc])
      rw [HIX.out i hin] at HST
      go_wp2_with (at_builtin; refine wp_app1 (w0 := w) base s[i] HOi.out HB.out (by omega) (by omega) _ _ rfl rfl rfl rfl ?_; intro v1 w1 hO1 hB1 hG1 hA1; have HO1 := Lib.hid hO1; have HB1 := Lib.hid hB1; clear hO1 hB1 hG1 hA1)
      go_roundw
      case rel => exact ⟨i + 1, by omega, by go_num, by rw [HST.out, ← Nat.add_assoc]; exact HO1.out, HB1.out⟩
      case measure => simp [intOf]; omega
    · obtain rfl : i = s.size := by omega
      have HT := Lib.hid (show S.take s.size = S from List.take_of_length_le (by rw [HBS.out]; exact Nat.le_refl _))
      rw [HT.out] at HOi
      go_wp2
      go_ret
      exact ⟨_, _, rfl, HOi.out, HB.out⟩
theorem rn_SumOf (A : Option Addr) (c : Nat) (L : List UInt8) (w : World) (hr : Rd w A 512 c L) :
    Calls Try.prog 43 #[.slice A 512 c] w fun e w' => e = .returned (.int .u32 ((sealL L).toNat : Int)) ∧ w = w' := by
  obtain ⟨A8, e8, r8⟩ := cut_from A 512 c 8 (by omega)
  have hc4 : (4 : Int) ≤ (c : Int) := by have := hr.cap; omega
  have e4 : ∀ (W : World), (Instr.slice 31 (.slice A 512 c) none (some (.int .i64 4)) none).run Try.prog W = .ok (.slice A 4 c) W := fun W => by
    have hel : Try.prog.elem 31 = 5 := by simp [Program.elem, Try.underlying31]
    have hu : Try.prog.underlying 31 = some (.slice (Try.prog.elem 31)) := by rw [hel]; exact Try.underlying31
    obtain ⟨i0, hi, hzz⟩ := Option.map_eq_some_iff.1 info_u8
    simp only [Prod.mk.injEq] at hzz
    rw [run_slice_h W 31 A 512 c hu .i64 4 (by omega) hc4, hel]
    obtain ⟨b9, o9, rfl, -⟩ := hr.at_ (by omega)
    simp [sizeOf, typeInfo, hi, hzz.2.1, sliced, Result.andThen, Addr.add_mid]
  have HSM := Lib.hid (ref_Sum A 4 c (L.take 4) w (hr.take 4 (by omega)))
  obtain ⟨c1, hc1⟩ : ∃ c1, c1 = crc 0#32 (L.take 4) := ⟨_, rfl⟩
  rw [← hc1] at HSM
  have HSU := Lib.hid (ref_Update c1 A8 (512 - 8) (c - 8) (L.drop 8) w (r8 w L hr))
  have HCC := Lib.hid (show sealL L = crc c1 (L.drop 8) by rw [hc1]; rfl)
  have e8 : ∀ (W : World), (Instr.slice 31 (.slice A 512 c) (some (.int .i64 8)) none none).run Try.prog W = .ok (.slice A8 504 (c - 8)) W := e8
  have HSU : Hid (Calls Try.prog 63 #[.int .u32 (c1.toNat : Int), .slice A8 504 (c - 8)] w _) := HSU
  clear hr r8 hc1
  go_enter Try.func43, Try.ntmps43
  go_wp2_with fail
  refine HSM.out.mono ?_
  rintro e w1 ⟨rfl, rfl⟩
  go_wp2_with fail
  refine HSU.out.mono ?_
  rintro e w1 ⟨rfl, rfl⟩
  go_wp2
  go_ret
  exact ⟨by rw [HCC.out]; rfl, rfl⟩
end Go.Proofs.Ytlandlgjhnnaiaa
