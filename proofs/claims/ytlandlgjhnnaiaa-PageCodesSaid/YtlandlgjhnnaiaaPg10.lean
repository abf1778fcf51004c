/- A block in the making: one, four, short. -/
import Derived.Test.YtlandlgjhnnaiaaPg5
import Derived.Test.YtlandlgjhnnaiaaOrdZ
import Derived.RegionTactic
import Derived.BigRegion
set_option linter.unusedVariables false
set_option linter.unusedSimpArgs false
set_option maxRecDepth 100000
namespace Go.Proofs.Ytlandlgjhnnaiaa
open Go.RowKit
theorem b8_val (n : Int) : ((b8 n).toNat : Int) = n % 256 := by
  unfold b8; rw [UInt8.toNat_ofNat']; omega
theorem b8_wrap (n : Int) : IntKind.u8.wrap n = ((b8 n).toNat : Int) := by
  rw [b8_val]; rfl
theorem pg_one (g a : Nat) (M : List UInt8) (n : Int) (w : World) (h : BkAt w g M a) (ha : a < 512) :
    Calls Try.prog 36 #[.pointer (some ⟨g, 0, none⟩), .int .i64 n] w fun e w' => e = .returned (.tuple #[]) ∧ BkAt w' g (M.set a (b8 n)) (a + 1) ∧ Only [g] w w' := by
  have hc := h.cat
  have hf := h.frz 512
  have hf2 := h.frz a
  have H2 := Lib.hid (h.setB a (b8 n) ha)
  have hwv := b8_wrap n
  obtain ⟨x, hx⟩ : ∃ x, x = b8 n := ⟨_, rfl⟩
  rw [← hx] at H2 hwv ⊢
  have hcl : w.cell? ⟨g, a, none⟩ = some (.int .u8 ((M.getD a 0).toNat : Int)) := h.cell a ha
  have ha0 : (0 : Int) ≤ (a : Int) ∧ (a : Int) < 512 := by omega
  clear hx h
  go_enter Try.func36, Try.ntmps36
  go_wp2_with fail
  go_region
  go_wp2
  go_end0
  exact ⟨rfl, ⟨(H2.out.setAt (a + 1)).row, H2.out.len⟩, ((((Only.refl [g] w).setCell (by simp) _).setCell (by simp) _)).drew⟩
theorem leB_getN : ∀ (k : Nat) (n : Int) (j : Nat), j < k → (leB k n).getD j 0 = b8 (n / 2 ^ (8 * j))
  | 0, _, _, h => by omega
  | k + 1, n, 0, _ => by simp [leB, b8]
  | k + 1, n, j + 1, h => by
    have h1 := leB_getN k (n / 256) j (by omega)
    rw [leB, List.getD_cons_succ, h1]
    congr 1
    rw [show 8 * (j + 1) = 8 + 8 * j by omega, Int.pow_add, show (2 : Int) ^ 8 = 256 by decide]
    exact Int.ediv_ediv_of_nonneg (by omega)
theorem leB_b8 (n : Int) (j : Nat) (hj : j < 4) : b8 (n / 2 ^ (8 * j)) = (leB 4 n).getD j 0 := (leB_getN 4 n j hj).symm
theorem pg_four (g a : Nat) (M : List UInt8) (n : Int) (w : World) (h : BkAt w g M a) (ha : a + 4 ≤ 512) :
    Calls Try.prog 38 #[.pointer (some ⟨g, 0, none⟩), .int .i64 n] w fun e w' => e = .returned (.tuple #[]) ∧ BkAt w' g (splice M a (leB 4 n)) (a + 4) ∧ Only [g] w w' := by
  have H := Lib.hid h
  have HL := Lib.hid h.len
  have HB := Lib.hid (leB_b8 n)
  clear h
  go_enter Try.func38, Try.ntmps38
  go_wp2_with fail
  go_loopw [4, 5] (fun _ x wx => ∃ j : Nat, j ≤ 4 ∧ x = .int .i64 j ∧ BkAt wx g (splice M a ((leB 4 n).take j)) (a + j) ∧ Only [g] w wx) (fun _ x _ => 4 - (intOf x).toNat)
  case atStart => exact ⟨0, by omega, rfl, by rw [List.take_zero, spl_nil]; exact H.out, Only.refl _ _⟩
  case round =>
    obtain ⟨j, hj, rfl, hI, hO⟩ := hrel
    by_cases hj4 : j < 4
    · have HO := Lib.hid hO
      have HC := Lib.hid (pg_one g (a + j) _ (n / 2 ^ (8 * j)) wr hI (by omega))
      have HS := Lib.hid (show (splice M a ((leB 4 n).take j)).set (a + j) (b8 (n / 2 ^ (8 * j))) = splice M a ((leB 4 n).take (j + 1)) by
        rw [HB.out j hj4]
        exact spl_step M (leB 4 n) a j 0 (by rw [leB_len, HL.out]; omega) (by rw [leB_len]; omega))
      rw [HS.out] at HC
      clear hI hO HS
      have hw8 : IntKind.i64.wrap (8 * (j : Int)) = 8 * (j : Int) := wrap_i64_nat (8 * j) (by omega)
      have hjj : (0 : Int) ≤ (j : Int) ∧ (j : Int) < 4 := by omega
      go_wp2_with fail
      refine HC.out.mono ?_
      rintro e w3 ⟨rfl, hB3, hO3⟩
      have HB3 := Lib.hid hB3
      have HO3 := Lib.hid hO3
      clear hB3 hO3
      go_wp2
      go_roundw
      case rel => exact ⟨j + 1, by omega, by go_num, by rw [← Nat.add_assoc]; exact HB3.out, HO.out.trans HO3.out⟩
      case measure => simp [intOf]; omega
    · obtain rfl : j = 4 := by omega
      have HO := Lib.hid hO
      have HI := Lib.hid hI
      have HT := Lib.hid (show (leB 4 n).take 4 = leB 4 n from List.take_of_length_le (by rw [leB_len]; omega))
      clear hO hI
      go_wp2
      go_end0
      exact ⟨rfl, by rw [← HT.out]; exact HI.out, HO.out⟩
theorem pg_short (g a : Nat) (M : List UInt8) (w : World) (h : BkAt w g M a) :
    Calls Try.prog 48 #[.pointer (some ⟨g, 0, none⟩)] w fun e w' => e = .returned (.bool (decide (512 < a))) ∧ w' = w := by
  have hc := h.cat
  clear h
  by_cases h1 : 512 < a
  · rw [decide_eq_true h1]
    have h2 : (512 : Int) < (a : Int) := by omega
    clear h1
    go_enter Try.func48, Try.ntmps48
    go_wp2
    go_ret
    exact ⟨by simp, rfl⟩
  · rw [decide_eq_false h1]
    have h2 : ¬ (512 : Int) < (a : Int) := by omega
    clear h1
    go_enter Try.func48, Try.ntmps48
    go_wp2
    go_ret
    exact ⟨by simp, rfl⟩
end Go.Proofs.Ytlandlgjhnnaiaa
